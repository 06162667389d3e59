/-
  The walks of the document's answer for the inbox. Conditions: its box lies as the hypotheses say.
-/
import Derived.Test.YtneglecglkibfaaRfP
import Derived.Test.YtneglecglkibfaaBoxT
import Derived.Deep.RegionHeld3
import Derived.Deep.QuietTactic
import Derived.BigQuiet
import Derived.Lib.Hide
import Derived.IntWalk
import Derived.BigRegion
import Derived.Deep.RegionLaw
namespace Go.Proofs.Ytneglecglkibfaa
open Go.RowKit Go.Maps
set_option linter.unusedVariables false

def rf0 (at' : Int) : Rf := ⟨max at' 0, [], 0, [], [], 0⟩
def RNewIs (w : World) (at' : Int) (e : Ending) (w' : World) : Prop := ∃ b, e = .returned (.pointer (some ⟨b, 0, none⟩)) ∧ w.heap.size ≤ b ∧ RfAt w' w.heap.size b (.slice none 0 0) (.slice none 0 0) (.slice none 0 0) [] (rf0 at') ∧ Below w.heap.size w w'
theorem rnew_any (w : World) (at' : Int) : Calls Try.prog 18 #[.int .i64 at'] w (RNewIs w at') := by
  rcases (by omega : (at' < 0 ∧ max at' 0 = 0) ∨ (¬ at' < 0 ∧ max at' 0 = at')) with ⟨c, e⟩ | ⟨c, e⟩
  all_goals
    have E := Lib.hid e
    clear e
    go_enter Try.func18, Try.ntmps18
    go_wp2
    go_ret
    refine ⟨w.heap.size, rfl, Nat.le_refl _, ⟨?_, OwnAt.nil _ _ _ _, OwnAt.nil _ _ _ _, OwnAt.nil _ _ _ _, rfl, by simp⟩, own_alloc (own_refl _) _⟩
    rw [heap_alloc_new]
    unfold rf0
    rw [E.out]
    rfl
set_option maxHeartbeats 1000000 in
theorem rapplied_any (w : World) (B b : Nat) (vc vd vh : Value) (L : List Q) (x : Rf) (h : RfAt w B b vc vd vh L x) (hx : x.ok) : Calls Try.prog 25 #[.pointer (some ⟨b, 0, none⟩)] w fun e w' => e = .returned (.int .i64 (x.first + lead x.done)) ∧ w = w' := by
  obtain ⟨Dd, cd, rfl, hcd⟩ := h.hd.form
  have c0 : w.cell? ⟨b, 0, none⟩ = some (.int .i64 x.first) := h.cell 0
  have c3 : w.cell? ⟨b, 3, none⟩ = some (.slice Dd x.done.length cd) := h.cell 3
  have h0 := hx.f0
  have h1 := hx.f1
  have h2 := hx.l1
  have hll := lead_le x.done
  have h5 : x.done.length ≤ 140 := by have := hx.dn; omega
  have HX := Lib.hid hx
  have hhd := h.hd
  clear hx
  go_enter Try.func25, Try.ntmps25
  go_wp2_with fail
  go_loop [3] (fun i => ∃ k : Nat, k ≤ lead x.done ∧ i = .int .i64 k) (fun i => x.done.length - (intOf i).toNat)
  case atStart => exact ⟨0, Nat.zero_le _, rfl⟩
  case round =>
    obtain ⟨k, hk, rfl⟩ := hrel
    by_cases hlt : k < lead x.done
    · have hv := lead_lt x.done k hlt
      have hcv : (x.done.map Value.bool)[k]? = some (.bool true) := by rw [List.getElem?_map, hv]; rfl
      obtain ⟨g, off, rfl, _, _, cv, _⟩ := hhd.at' hcv
      have q1 : (0 : Int) ≤ (k : Int) := by omega
      have q2 : (k : Int) < (x.done.length : Int) := by omega
      clear hv hcv
      go_wp2_with fail
      go_round
      case rel => exact ⟨k + 1, by omega, by go_num⟩
      case measure => simp [intOf]; omega
    · obtain rfl : k = lead x.done := by omega
      obtain ⟨n, hn⟩ : ∃ n, lead x.done = n := ⟨_, rfl⟩
      have he := lead_end x.done
      have HN := Lib.hid hn
      rw [hn] at he hll ⊢
      clear hlt hk hn
      rcases he with he | he
      · have q2 : ¬ (n : Int) < (x.done.length : Int) := by omega
        clear he
        go_wp2_with fail
        go_ret
        exact ⟨by rw [HN.out]; rfl, rfl⟩
      · have hcv : (x.done.map Value.bool)[n]? = some (.bool false) := by rw [List.getElem?_map, he]; rfl
        obtain ⟨g, off, rfl, _, _, cv, _⟩ := hhd.at' hcv
        have q1 : (0 : Int) ≤ (n : Int) := by omega
        have q2 : (n : Int) < (x.done.length : Int) := by have := (List.getElem?_eq_some_iff.1 he).1; omega
        clear he hcv
        go_wp2_with fail
        go_ret
        exact ⟨by rw [HN.out]; rfl, rfl⟩
theorem rf_heart {w : World} {B : Nat} {D : Option Addr} {n c : Nat} {l : List (Int × Int)} (h : OwnAt w B 65 2 (.slice D n c) n (flatH l)) {k : Nat} {p : Int × Int} (hk : l[k]? = some p) :
    ∃ g off, D = some ⟨g, off, none⟩ ∧ w.cell? ⟨g, off + k * 2, none⟩ = some (.int .u64 p.2) ∧ w.cell? ⟨g, off + k * 2 + 1, none⟩ = some (.int .i64 p.1) := by
  have h0 := flat_get (cf := hcells) (C := 2) (fun _ => rfl) l k p 0 hk (by omega)
  have h1 := flat_get (cf := hcells) (C := 2) (fun _ => rfl) l k p 1 hk (by omega)
  obtain ⟨g, off, e, hc⟩ := h.cells (fun e => by unfold flatH at e; rw [e] at h0; simp [hcells] at h0)
  refine ⟨g, off, e, hc (k * 2) _ (by simpa [hcells, flatH] using h0), ?_⟩
  rw [Nat.add_assoc]
  exact hc (k * 2 + 1) _ (by simpa [hcells, flatH] using h1)
def rsettleX (x : Rf) : Rf := ⟨x.first, x.came, x.handed, x.done, x.hearts, gotH x.hearts (x.first + lead x.done) x.got⟩
def RSettleIs (w : World) (B b : Nat) (vc vd vh : Value) (L : List Q) (x : Rf) (e : Ending) (w' : World) : Prop := e = .returned (.tuple #[]) ∧ RfAt w' B b vc vd vh L (rsettleX x) ∧ Turns (one b) w w'
def withGot (x : Rf) (g : Int) : Rf := ⟨x.first, x.came, x.handed, x.done, x.hearts, g⟩
theorem withGot_ok {x : Rf} (h : x.ok) {g : Int} (h0 : 0 ≤ g) (h1 : g ≤ 18446744073709551615) : (withGot x g).ok := ⟨h.f0, h.f1, h.l1, h.hd, h.dn, h.few, h0, h1, h.h1, h.hv⟩
theorem gotH_bd' {H : List (Int × Int)} {base g : Int} (h0 : 0 ≤ g) (h1 : g ≤ 18446744073709551615) (hv : ∀ p ∈ H, (-9223372036854775808 ≤ p.1 ∧ p.1 ≤ 9223372036854775807) ∧ 0 ≤ p.2 ∧ p.2 ≤ 18446744073709551615) : 0 ≤ gotH H base g ∧ gotH H base g ≤ 18446744073709551615 := by
  have h2 := (gotH_le H base g).1
  rcases gotH_is H base g with e | ⟨p, hp, _, e⟩
  · omega
  · have := hv p hp; omega
theorem gotH_snoc {H : List (Int × Int)} {base g : Int} {k : Nat} {p : Int × Int} (h : H[k]? = some p) : gotH (H.take (k + 1)) base g = if p.1 ≤ base then max (gotH (H.take k) base g) p.2 else gotH (H.take k) base g := by
  obtain ⟨hk, rfl⟩ := List.getElem?_eq_some_iff.1 h
  unfold gotH
  rw [List.take_succ_eq_append_getElem hk, List.foldl_append]
  rfl
set_option maxHeartbeats 2000000 in
theorem rsettle_any (w : World) (B b : Nat) (vc vd vh : Value) (L : List Q) (x : Rf) (h : RfAt w B b vc vd vh L x) (hx : x.ok) : Calls Try.prog 31 #[.pointer (some ⟨b, 0, none⟩)] w (RSettleIs w B b vc vd vh L x) := by
  obtain ⟨Dh, ch, rfl, hch⟩ := h.hh.form
  have h5 := hx.h1
  have HX := Lib.hid hx
  clear hx
  go_enter Try.func31, Try.ntmps31
  go_wp2_with fail
  go_loopw [2] (fun i wr => ∃ k : Nat, k ≤ x.hearts.length ∧ i = .int .i64 k ∧ RfAt wr B b vc vd (.slice Dh x.hearts.length ch) L (withGot x (gotH (x.hearts.take k) (x.first + lead x.done) x.got)) ∧ Turns (one b) w wr) (fun i _ => x.hearts.length - (intOf i).toNat)
  case atStart => exact ⟨0, Nat.zero_le _, rfl, h, Turns.refl _ _⟩
  case round =>
    obtain ⟨k, hk, rfl, hR, hT⟩ := hrel
    have c4 : wr.cell? ⟨b, 4, none⟩ = some (.slice Dh x.hearts.length ch) := hR.cell 4
    by_cases hlt : k < x.hearts.length
    · obtain ⟨p, hp⟩ : ∃ p, x.hearts[k]? = some p := ⟨_, List.getElem?_eq_getElem hlt⟩
      have hs := gotH_snoc (base := x.first + lead x.done) (g := x.got) hp
      have hbd := gotH_bd' (H := x.hearts.take k) (base := x.first + lead x.done) HX.out.g0 HX.out.g1 (fun p hp => HX.out.hv p (List.mem_of_mem_take hp))
      have hwok := withGot_ok HX.out hbd.1 hbd.2
      obtain ⟨g0, hg0⟩ : ∃ g0, gotH (x.hearts.take k) (x.first + lead x.done) x.got = g0 := ⟨_, rfl⟩
      rw [hg0] at hs hbd hwok hR
      have c5 : wr.cell? ⟨b, 5, none⟩ = some (.int .u64 g0) := hR.cell 5
      have f5 : wr.frozen? ⟨b, 5, none⟩ = false := hR.frozen 5
      have hRn : ∀ n, RfAt (wr.drewN n) B b vc vd (.slice Dh x.hearts.length ch) L (withGot x g0) := fun n => hR.turn (S := none') ((Turns.refl _ _).drewN n) (fun _ _ => id) (fun _ _ => id)
      have HRN := Lib.hid hRn
      have HWK := Lib.hid hwok
      obtain ⟨g, off, rfl, p0, p1⟩ := rf_heart hR.hh hp
      have q1 : (0 : Int) ≤ (k : Int) := by omega
      have q2 : (k : Int) < (x.hearts.length : Int) := by omega
      have HR := Lib.hid hR
      obtain ⟨a, ha⟩ : ∃ a, x.first + (lead x.done : Int) = a := ⟨_, rfl⟩
      have HA := Lib.hid ha
      rw [ha] at hs
      have hAp : ∀ n, Calls Try.prog 25 #[.pointer (some ⟨b, 0, none⟩)] (wr.drewN n) (fun e w' => e = .returned (.int .i64 a) ∧ wr.drewN n = w') := fun n => (rapplied_any _ B b _ _ _ _ _ (hRn n) hwok).mono fun e w' h => ⟨h.1.trans (congrArg (fun z => Ending.returned (.int .i64 z)) ha), h.2⟩
      have HAP := Lib.hid hAp
      clear hAp
      clear hRn hwok hg0 hp hR ha
      rcases (by omega : (¬ p.1 ≤ a) ∨ (p.1 ≤ a ∧ ¬ g0 < p.2 ∧ max g0 p.2 = g0) ∨ (p.1 ≤ a ∧ g0 < p.2 ∧ max g0 p.2 = p.2)) with k1 | ⟨k1, k2, k3⟩ | ⟨k1, k2, k3⟩
      · rw [if_neg k1] at hs
        have HS := Lib.hid hs
        have d1 : decide (p.1 ≤ a) = false := by simpa using k1
        clear hs
        go_wp2_with fail
        go_quiet (((go_at_call 25; exact Calls.quiet_of_same ((HAP.out _).mono fun e w' h => ⟨h.1, h.2.symm⟩))))
        go_wp2
        go_roundw
        case rel => exact ⟨k + 1, by omega, by go_num, by rw [HA.out, HS.out]; exact HRN.out _, hT.drewN _⟩
        case measure => simp [intOf]; omega
      · rw [if_pos k1, k3] at hs
        have HS := Lib.hid hs
        have d1 : decide (p.1 ≤ a) = true := by simpa using k1
        have d2 : decide (g0 < p.2) = false := by simpa using k2
        clear hs k3
        go_wp2_with fail
        go_quiet (((go_at_call 25; exact Calls.quiet_of_same ((HAP.out _).mono fun e w' h => ⟨h.1, h.2.symm⟩))))
        go_wp2
        go_roundw
        case rel => exact ⟨k + 1, by omega, by go_num, by rw [HA.out, HS.out]; exact HRN.out _, hT.drewN _⟩
        case measure => simp [intOf]; omega
      · rw [if_pos k1, k3] at hs
        have HS := Lib.hid hs
        have d1 : decide (p.1 ≤ a) = true := by simpa using k1
        have d2 : decide (g0 < p.2) = true := by simpa using k2
        clear hs k3
        go_wp2_with fail
        go_quiet (((go_at_call 25; exact Calls.quiet_of_same ((HAP.out _).mono fun e w' h => ⟨h.1, h.2.symm⟩))))
        go_wp2
        go_roundw
        case rel => exact ⟨k + 1, by omega, by go_num, by rw [HA.out, HS.out]; exact (HRN.out _).row rfl rfl rfl rfl, (hT.drewN _).set (a := ⟨b, 5, none⟩) (fun _ => rfl) _⟩
        case measure => simp [intOf]; omega
    · obtain rfl : k = x.hearts.length := by omega
      have q2 : ¬ (x.hearts.length : Int) < (x.hearts.length : Int) := by omega
      go_wp2_with fail
      refine bodyPost_ret (results_none rfl _ _ _) rfl ?_
      rw [List.take_length] at hR
      exact ⟨rfl, hR, hT⟩
def RPutIs (r : R) (w : World) (B b : Nat) (vc vd vh : Value) (L : List Q) (x : Rf) (e : Ending) (w' : World) : Prop := ∃ vc' vd' q, e = .returned (.int .i64 0) ∧ q.r = r ∧ RfAt w' B b vc' vd' vh (L ++ [q]) ⟨x.first, x.came ++ [r], x.handed, x.done ++ [false], x.hearts, x.got⟩ ∧ Turns (rfS b vc vd vh) w w' ∧ ∀ g, g < w.heap.size → rfS b vc' vd' vh g → rfS b vc vd vh g
theorem rput_fin {w w2 w3 w5 : World} {B b : Nat} {vc vd vh : Value} {L : List Q} {x : Rf} {q : Q} {D3 D5 : Option Addr} {cp3 cp5 : Nat} {o2 o4 : Obj} (hbw : Below w.heap.size w w2) (h2 : RfAt w2 B b vc vd vh L x) (hQ2 : QAt w2 q)
    (hown3 : OwnAt w3 B 25 4 (.slice D3 (x.came.length + 1) cp3) (x.came.length + 1) (flatQ L ++ q.cells)) (hg3 : (w2.alloc o2).grownBy w3 vc.ownBlock) (hloc3 : ∀ g, (Value.slice D3 (x.came.length + 1) cp3).ownBlock = some g → vc.ownBlock = some g ∨ (w2.alloc o2).heap.size ≤ g)
    (hown5 : OwnAt w5 B 4 1 (.slice D5 (x.done.length + 1) cp5) (x.done.length + 1) (x.done.map Value.bool ++ [.bool false])) (hg5 : ((w3.setCell ⟨b, 1, none⟩ (.slice D3 (x.came.length + 1) cp3)).alloc o4).grownBy w5 vd.ownBlock) (hloc5 : ∀ g, (Value.slice D5 (x.done.length + 1) cp5).ownBlock = some g → vd.ownBlock = some g ∨ ((w3.setCell ⟨b, 1, none⟩ (.slice D3 (x.came.length + 1) cp3)).alloc o4).heap.size ≤ g) :
    RPutIs q.r w B b vc vd vh L x (.returned (.int .i64 0)) (w5.setCell ⟨b, 3, none⟩ (.slice D5 (x.done.length + 1) cp5)) := by
  have hbl := h2.blt
  have hs2 : (w2.alloc o2).heap.size = w2.heap.size + 1 := by simp
  have hs3 := hg3.size
  have hs4 : ((w3.setCell ⟨b, 1, none⟩ (.slice D3 (x.came.length + 1) cp3)).alloc o4).heap.size = w3.heap.size + 1 := by simp [World.setCell]
  have hs5 := hg5.size
  have hsw := hbw.size
  have t3 : Turns (fun k => vc.ownBlock = some k) w2 w3 := ((Turns.refl _ w2).alloc o2).grown hg3 (fun _ _ e => e)
  have t6 : Turns (fun k => k = b ∨ vd.ownBlock = some k) w3 (w5.setCell ⟨b, 3, none⟩ (.slice D5 (x.done.length + 1) cp5)) := ((((Turns.refl _ w3).set (a := ⟨b, 1, none⟩) (fun _ => .inl rfl) _).alloc o4).grown hg5 (fun _ _ e => .inr e)).set (a := ⟨b, 3, none⟩) (fun _ => .inl rfl) _
  have tS : Turns (rfS b vc vd vh) w2 (w5.setCell ⟨b, 3, none⟩ (.slice D5 (x.done.length + 1) cp5)) := (t3.weaken (fun _ _ e => .inr (.inl e))).on t6 (fun j _ e => by rcases e with e | e; exact .inl e; exact .inr (.inr (.inl e)))
  have tN : Turns (fun k => k = b ∨ vc.ownBlock = some k ∨ vd.ownBlock = some k) w2 (w5.setCell ⟨b, 3, none⟩ (.slice D5 (x.done.length + 1) cp5)) := (t3.weaken (fun _ _ e => .inr (.inl e))).on t6 (fun j _ e => by rcases e with e | e; exact .inl e; exact .inr (.inr e))
  have hb3 : w3.heap[b]? = some (.cells #[.int .i64 x.first, vc, .int .i64 x.handed, vd, vh, .int .u64 x.got] 55 (0, 0)) := (t3.block b hbl h2.nc).trans h2.hb
  have hd3 := h2.hd.turn t3 (fun g hg e => h2.ncd g e hg)
  have hb4 := heap_setCell_same w3 b 1 _ _ (.slice D3 (x.came.length + 1) cp3) hb3
  have hb4' : ((w3.setCell ⟨b, 1, none⟩ (.slice D3 (x.came.length + 1) cp3)).alloc o4).heap[b]? = some (.cells #[.int .i64 x.first, (.slice D3 (x.came.length + 1) cp3), .int .i64 x.handed, vd, vh, .int .u64 x.got] 55 (0, 0)) := by
    rw [Below.heap_alloc _ _ _ (by simp [World.setCell]; omega), hb4]; rfl
  have hb5 : w5.heap[b]? = some (.cells #[.int .i64 x.first, (.slice D3 (x.came.length + 1) cp3), .int .i64 x.handed, vd, vh, .int .u64 x.got] 55 (0, 0)) := (hg5.block b (by omega) (fun e => h2.nd e.symm)).trans hb4'
  have hb6 := heap_setCell_same w5 b 3 _ _ (.slice D5 (x.done.length + 1) cp5) hb5
  have n3 : ∀ g, (Value.slice D3 (x.came.length + 1) cp3).ownBlock = some g → vc.ownBlock = some g ∨ w2.heap.size ≤ g := fun g hg => (hloc3 g hg).imp id (fun e => by omega)
  have n5 : ∀ g, (Value.slice D5 (x.done.length + 1) cp5).ownBlock = some g → vd.ownBlock = some g ∨ w2.heap.size ≤ g := fun g hg => (hloc5 g hg).imp id (fun e => by omega)
  have own3 := hown3.turn t6 (fun g hg e => by
    rcases e with e | e
    · exact own_ne_row hown3 hb3 (by decide) (by rw [hg, e])
    · exact own_types hown3 hd3 (by decide) g hg e)
  have own5 := hown5.turn (S := one b) ((Turns.refl (one b) w5).set (a := ⟨b, 3, none⟩) (fun _ => rfl) (.slice D5 (x.done.length + 1) cp5)) (fun g hg e => own_ne_row hown5 hb5 (by decide) (by rw [hg, show g = b from e]))
  refine ⟨_, _, q, rfl, rfl, ⟨by rw [hb6]; rfl, by simpa [flatQ] using own3, by simpa using own5, ?_, by simp [h2.lr], fun q' hq' => ?_⟩, (Turns.of_below hbw).on tS (fun _ _ e => e), fun g hg e => ?_⟩
  · exact h2.hh.turn tN (fun g hg e => by
      rcases e with e | e | e
      · exact h2.nh (by rw [hg, e])
      · exact h2.nch g e hg
      · exact h2.ndh g e hg)
  · have hnv : ∀ g, VB w2 g → ¬ (rfS b vc vd vh g) := h2.noVB
    rcases List.mem_append.1 hq' with hq' | hq'
    · exact (h2.rd q' hq').turn tS hnv
    · rw [List.mem_singleton] at hq'
      subst hq'
      exact hQ2.turn tS hnv
  · rcases e with e | e | e | e
    · exact .inl e
    · exact .inr (.inl ((n3 g e).resolve_right (by omega)))
    · exact .inr (.inr (.inl ((n5 g e).resolve_right (by omega))))
    · exact .inr (.inr (.inr e))
theorem rput_old (w : World) (B b : Nat) (vc vd vh : Value) (L : List Q) (x : Rf) (h : RfAt w B b vc vd vh L x) (r : R) (D : Option Addr) (n c : Nat) (at' : Int) (hlt : at' < x.first + x.came.length) (hx : x.ok) : Calls Try.prog 19 #[.pointer (some ⟨b, 0, none⟩), .int .i64 at', .agg #[.int .u64 r.ts, .int .i64 r.dc, .int .i64 r.tx, .slice D n c]] w fun e w' => e = .returned (.int .i64 11) ∧ Below w.heap.size w w' := by
  obtain ⟨Dl, cl, rfl, hcl⟩ := h.hc.form
  have c0 : w.cell? ⟨b, 0, none⟩ = some (.int .i64 x.first) := h.cell 0
  have c1 : w.cell? ⟨b, 1, none⟩ = some (.slice Dl x.came.length cl) := h.cell 1
  have hbl := h.blt
  have h0 := hx.f0
  have h1 := hx.f1
  have h2 := hx.l1
  have i1 : IntKind.i64.wrap (x.first + (x.came.length : Int)) = x.first + (x.came.length : Int) := IntWalk.i64_in _ (by omega)
  go_enter Try.func19, Try.ntmps19
  go_wp2_with fail
  go_quiet (fail)
  clear i1
  go_wp2
  go_ret
  exact ⟨rfl, own_drewN (own_alloc (own_refl _) _) _⟩
theorem rput_far (w : World) (B b : Nat) (vc vd vh : Value) (L : List Q) (x : Rf) (h : RfAt w B b vc vd vh L x) (r : R) (D : Option Addr) (n c : Nat) (at' : Int) (hlt : x.first + x.came.length < at') (hx : x.ok) : Calls Try.prog 19 #[.pointer (some ⟨b, 0, none⟩), .int .i64 at', .agg #[.int .u64 r.ts, .int .i64 r.dc, .int .i64 r.tx, .slice D n c]] w fun e w' => e = .returned (.int .i64 7) ∧ Below w.heap.size w w' := by
  obtain ⟨Dl, cl, rfl, hcl⟩ := h.hc.form
  have c0 : w.cell? ⟨b, 0, none⟩ = some (.int .i64 x.first) := h.cell 0
  have c1 : w.cell? ⟨b, 1, none⟩ = some (.slice Dl x.came.length cl) := h.cell 1
  have hbl := h.blt
  have h0 := hx.f0
  have h1 := hx.f1
  have h2 := hx.l1
  have i1 : IntKind.i64.wrap (x.first + (x.came.length : Int)) = x.first + (x.came.length : Int) := IntWalk.i64_in _ (by omega)
  have k1 : ¬ at' < x.first + (x.came.length : Int) := by omega
  go_enter Try.func19, Try.ntmps19
  go_wp2_with fail
  go_quiet (fail)
  clear i1
  go_wp2
  go_ret
  exact ⟨rfl, own_drewN (own_alloc (own_refl _) _) _⟩
set_option maxRecDepth 100000 in
set_option maxHeartbeats 4000000 in
theorem rput_ok (w : World) (B b : Nat) (vc vd vh : Value) (L : List Q) (x : Rf) (h : RfAt w B b vc vd vh L x) (r : R) (D : Option Addr) (c : Nat) (at' : Int) (hat : at' = x.first + x.came.length) (hx : x.ok) (hr : r.vers.length ≤ 1000) (hD : Cells w D (flatV r.vers)) (hB : B ≤ w.heap.size) : Calls Try.prog 19 #[.pointer (some ⟨b, 0, none⟩), .int .i64 at', .agg #[.int .u64 r.ts, .int .i64 r.dc, .int .i64 r.tx, .slice D r.vers.length c]] w (RPutIs r w B b vc vd vh L x) := by
  obtain ⟨i0, hi0, hz0, hz1, hz2⟩ := info_parts infoRec
  obtain ⟨i2, hi2, hy0, hy1, hy2⟩ := info_parts infoBool
  obtain ⟨Dl, cl, rfl, hcl⟩ := h.hc.form
  obtain ⟨Dd, cd, rfl, hcd⟩ := h.hd.form
  have h0 := hx.f0
  have h1 := hx.f1
  have h2 := hx.l1
  have i1 : IntKind.i64.wrap (x.first + (x.came.length : Int)) = x.first + (x.came.length : Int) := IntWalk.i64_in _ (by omega)
  have h3 := hx.dn
  have k1 : ¬ at' < x.first + (x.came.length : Int) := by omega
  have k2 : ¬ x.first + (x.came.length : Int) < at' := by omega
  have h64 : r.vers.length * 64 ≤ 140737488351232 := by omega
  have hdl : x.done.length ≤ 140 := by omega
  have HX := Lib.hid hx
  clear hat h3
  have c0 : w.cell? ⟨b, 0, none⟩ = some (.int .i64 x.first) := h.cell 0
  have c1 : w.cell? ⟨b, 1, none⟩ = some (.slice Dl x.came.length cl) := h.cell 1
  have hbl := h.blt
  go_enter Try.func19, Try.ntmps19
  go_wp2_with fail
  go_quiet (fail)
  obtain ⟨W, hW⟩ : ∃ W, (w.alloc (.cells #[.int .u64 r.ts, .int .i64 r.dc, .int .i64 r.tx, .slice D r.vers.length c] 25)).drewN nq = W := ⟨_, rfl⟩
  have hbW : Below w.heap.size w W := hW ▸ own_drewN (own_alloc (own_refl _) _) nq
  have hxW : Below (w.alloc (.cells #[.int .u64 r.ts, .int .i64 r.dc, .int .i64 r.tx, .slice D r.vers.length c] 25)).heap.size (w.alloc (.cells #[.int .u64 r.ts, .int .i64 r.dc, .int .i64 r.tx, .slice D r.vers.length c] 25)) W := hW ▸ own_drewN (own_refl _) nq
  rw [hW]
  clear hW
  have hBW := h.on hbW
  have hBle : B ≤ W.heap.size := Nat.le_trans hB hbW.size
  have hDW := hD.on hbW
  obtain ⟨a, ha⟩ : ∃ a, lead x.done = a := ⟨_, rfl⟩
  have hal : a ≤ 140 := by have := lead_le x.done; omega
  have hap := rapplied_any W B b _ _ _ _ x hBW hx
  rw [ha] at hap
  have HAP := Lib.hid hap
  have d1 : W.cell? ⟨b, 1, none⟩ = some (.slice Dl x.came.length cl) := cell_on hbW c1
  have y0 : W.cell? ⟨w.heap.size, 0, none⟩ = some (.int .u64 r.ts) := (box_on hxW).1 0
  have y1 : W.cell? ⟨w.heap.size, 1, none⟩ = some (.int .i64 r.dc) := (box_on hxW).1 1
  have y2 : W.cell? ⟨w.heap.size, 2, none⟩ = some (.int .i64 r.tx) := (box_on hxW).1 2
  have y3 : W.cell? ⟨w.heap.size, 3, none⟩ = some (.slice D r.vers.length c) := (box_on hxW).1 3
  clear hap ha i1 hx
  have k3 : ¬ (4096 : Int) ≤ x.first + (x.came.length : Int) - (x.first + (a : Int)) := by omega
  go_wp2_with (go_at_call 25; refine HAP.out.mono ?_; rintro e w1 ⟨rfl, rfl⟩)
  clear hxW
  go_region_law (first | (refine step_append_at _ (by rfl) _ _ 51 (by rfl) B 25 i0 (.agg #[.int .u64 0, .int .i64 0, .int .i64 0, .slice none 0 0]) 4 48 Try.underlying51 hi0 hz0 hz1 hz2 (by rfl) (by omega) _ _ _ (by rfl) (hB2.hc.on (own_alloc (own_refl _) _)) _ 1 _ [.int .u64 r.ts, .int .i64 r.dc, .int .i64 r.tx, .slice D2 r.vers.length cp2] (by rfl) rfl (Cells.new w2 #[.int .u64 r.ts, .int .i64 r.dc, .int .i64 r.tx, .slice D2 r.vers.length cp2] 25) (one_q ⟨r, D2, cp2⟩) (by unfold maxLen; omega) (by omega) (by have := hBle; have := hbW2.size; simp; omega) ?_; intro D3 cp3 w3 hown3 hgrow3 hloc3; have t3 := ((Turns.refl (fun k => (Value.slice Dl x.came.length cl).ownBlock = some k) w2).alloc _).grown hgrow3 (fun _ _ e => e); have c1'' : w3.cell? ⟨b, 1, none⟩ = some (.slice Dl x.came.length cl) := t3.cell c1' hB2.nc; have f1'' : w3.frozen? ⟨b, 1, none⟩ = false := t3.frozen (a := ⟨b, 1, none⟩) hbl2 hB2.nc (hB2.frozen 1); have c3'' : w3.cell? ⟨b, 3, none⟩ = some (.slice Dd x.done.length cd) := t3.cell (hB2.cell 3) hB2.nc; have f3'' : w3.frozen? ⟨b, 3, none⟩ = false := t3.frozen (a := ⟨b, 3, none⟩) hbl2 hB2.nc (hB2.frozen 3); have hd3 := hB2.hd.turn t3 (fun g hg e => hB2.ncd g e hg)) | (go_simp; (go_at_call 10; (with_reducible refine (rcopy_any r D _ c _ rfl h64 (hDW.on (own_drew (own_refl _)))).mono ?_); rintro e w2 ⟨D2, cp2, rfl, hown2, hb2⟩; have hbW2 : Below W.heap.size W w2 := below_own (own_drew (own_refl _)) hb2; have hB2 := hBW.on hbW2; have c1' : w2.cell? ⟨b, 1, none⟩ = some (.slice Dl x.came.length cl) := hB2.cell 1; have hbl2 := hB2.blt)))
  all_goals
    have hd4 := hd3.turn ((Turns.refl (one b) w3).set (a := ⟨b, 1, none⟩) (fun _ => rfl) (.slice D3 (x.came.length + 1) cp3)) (fun g hg e => hB2.nd (by rw [hg]; exact congrArg some e))
    have hs3 : w2.heap.size + 1 ≤ w3.heap.size := by have := hgrow3.size; simpa using this
    have c4 : (w3.setCell ⟨b, 1, none⟩ (.slice D3 (x.came.length + 1) cp3)).cell? ⟨b, 3, none⟩ = some (.slice Dd x.done.length cd) := by go_simp
    have f4 : (w3.setCell ⟨b, 1, none⟩ (.slice D3 (x.came.length + 1) cp3)).frozen? ⟨b, 3, none⟩ = false := by go_simp
    have hnew : Cells ((w3.setCell ⟨b, 1, none⟩ (.slice D3 (x.came.length + 1) cp3)).alloc (.cells #[.bool false] 4)) (some ⟨(w3.setCell ⟨b, 1, none⟩ (.slice D3 (x.came.length + 1) cp3)).heap.size, 0, none⟩) [.bool false] := Cells.new (w3.setCell ⟨b, 1, none⟩ (.slice D3 (x.came.length + 1) cp3)) #[.bool false] 4
    rw [show (w3.setCell ⟨b, 1, none⟩ (.slice D3 (x.came.length + 1) cp3)).heap.size = w3.heap.size from by simp [World.setCell]] at hnew
    clear y0 y1 y2 y3 d1 c0 c1
    go_wp2_with (at_builtin; go_loud (refine wpList_append_at _ rfl _ _ 52 rfl B 4 i2 (.bool false) 1 1 Try.underlying52 hi2 hy0 hy1 hy2 rfl (by omega) _ _ _ rfl (hd4.on (own_alloc (own_refl _) _)) _ 1 _ [.bool false] rfl rfl hnew (fun u hu => by rw [List.mem_singleton] at hu; subst hu; rfl) (by unfold maxLen; omega) (by omega) (by have := hBle; have := hbW2.size; simp; omega) ?_); intro D5 cp5 w5 hown5 hgrow5 hloc5; have t5 := ((Turns.refl (fun k => (Value.slice Dd x.done.length cd).ownBlock = some k) (w3.setCell ⟨b, 1, none⟩ (.slice D3 (x.came.length + 1) cp3))).alloc _).grown hgrow5 (fun _ _ e => e); have c5 : w5.cell? ⟨b, 3, none⟩ = some (.slice Dd x.done.length cd) := t5.cell c4 hB2.nd; have f5 : w5.frozen? ⟨b, 3, none⟩ = false := t5.frozen (a := ⟨b, 3, none⟩) (by simp; omega) hB2.nd f4)
    go_ret
    exact rput_fin (q := ⟨r, D2, cp2⟩) (below_own hbW hbW2) hB2 (qat_own hown2 rfl) hown3 hgrow3 hloc3 hown5 hgrow5 hloc5
end Go.Proofs.Ytneglecglkibfaa
