/-
  The walk of the reference's Put. Conditions: the list's cells lie as the hypotheses say, and it is no longer than memory holds.
-/
import Derived.Test.YtpiifgmegdphpaaChainAt
import Derived.Test.YtpiifgmegdphpaaOwn
import Derived.Test.YtpiifgmegdphpaaPutP
import Derived.Test.YtpiifgmegdphpaaVerEq
import Derived.Deep.RegionWith
namespace Go.Proofs.Ytpiifgmegdphpaa
open Go.RowKit
set_option linter.unusedVariables false


/-- what Put answers. -/
def PutIs (l : List V) (v : V) (w : World) (e : Ending) (w' : World) : Prop := ∃ (D : Option Addr) (cp : Nat), e = .returned (.tuple #[.slice D (putL l v).length cp, .int .i64 (putE l v)]) ∧
  w'.ownsRow w.heap.size 25 6 (.slice D (putL l v).length cp) (putL l v).length (flatV (putL l v)) ∧ Below w.heap.size w w'
theorem own_weaken {w : World} {base base' : Nat} {e : TypeId} {size n : Nat} {v : Value} {xs : List Value} (h : w.ownsRow base e size v n xs) (hb : base' ≤ base) : w.ownsRow base' e size v n xs := by
  obtain ⟨h1, h2 | ⟨g, cap, cur, hv, hg, h3⟩⟩ := h
  · exact ⟨h1, .inl h2⟩
  · exact ⟨h1, .inr ⟨g, cap, cur, hv, by omega, h3⟩⟩
theorem base_ok {w X : World} {o o' : Obj} (h : Below (w.alloc o).heap.size (w.alloc o) X) : w.heap.size + 1 ≤ (X.alloc o').heap.size := by
  have h1 := (own_alloc h o').size
  have h2 : (w.alloc o).heap.size = w.heap.size + 1 := by simp
  omega
theorem below_box {w w1 : World} {o : Obj} (h : Below (w.alloc o).heap.size (w.alloc o) w1) : Below w.heap.size w w1 := below_own (own_alloc (own_refl _) _) h

set_option maxHeartbeats 4000000 in
theorem rput_any (A : Option Addr) (n c : Nat) (l : List V) (v : V) (w : World) (hn : l.length = n) (hm : n ≤ 100000) (hA : Cells w A (flatV l)) :
    Calls Try.prog 21 #[.slice A n c, .agg #[.string v.key, .string v.val, .bool v.gone, .int .u64 v.ts, .int .i64 v.dc, .int .i64 v.tx]] w (PutIs l v w) := by
  obtain ⟨i0, hi0, hz0, hz1, hz2⟩ := info_parts infoVer
  go_enter Try.func21, Try.ntmps21
  go_wp2
  go_loopw [6] (fun i wr => ∃ k : Nat, k ≤ n ∧ i = .int .i64 k ∧ Below (w.alloc (.cells #[.string v.key, .string v.val, .bool v.gone, .int .u64 v.ts, .int .i64 v.dc, .int .i64 v.tx] 25)).heap.size (w.alloc (.cells #[.string v.key, .string v.val, .bool v.gone, .int .u64 v.ts, .int .i64 v.dc, .int .i64 v.tx] 25)) wr ∧ free (l.take k) v = true) (fun i _ => n - (intOf i).toNat)
  case atStart => exact ⟨0, Nat.zero_le _, rfl, Below.refl _ _, rfl⟩
  case round =>
    obtain ⟨k, hk, rfl, hbel, hfr⟩ := hrel
    have HFR := Lib.hid hfr
    clear hfr
    have hbw := below_box hbel
    by_cases hlt : k < n
    · obtain ⟨x, hx⟩ : ∃ x, l[k]? = some x := ⟨_, List.getElem?_eq_getElem (by omega)⟩
      obtain ⟨b, off, rfl, hc⟩ := (hA.on hbw).ver hx
      obtain ⟨x0, x1, x2, x3, x4, x5⟩ := hc k x hx
      have v0 : wr.cell? ⟨w.heap.size, 0, none⟩ = some (.string v.key) := (box_on hbel).1 0
      have v1 : wr.cell? ⟨w.heap.size, 1, none⟩ = some (.string v.val) := (box_on hbel).1 1
      have v2 : wr.cell? ⟨w.heap.size, 2, none⟩ = some (.bool v.gone) := (box_on hbel).1 2
      have v3 : wr.cell? ⟨w.heap.size, 3, none⟩ = some (.int .u64 v.ts) := (box_on hbel).1 3
      have v4 : wr.cell? ⟨w.heap.size, 4, none⟩ = some (.int .i64 v.dc) := (box_on hbel).1 4
      have v5 : wr.cell? ⟨w.heap.size, 5, none⟩ = some (.int .i64 v.tx) := (box_on hbel).1 5
      have g3 : (0 : Int) ≤ (k : Int) := by omega
      have g4 : (k : Int) < (n : Int) := by omega
      clear hc
      cases hxv : vlt x v
      · cases hvx : vlt v x
        · have hvs : vsame x v = true := by unfold vsame; rw [hxv, hvx]; rfl
          have hq := ver_eq x v
          have hpl : putL l v = [] := by unfold putL; rw [if_neg (by rw [not_free hx hvs]; simp)]
          have hpe : putE l v = if veq x v = true then 8 else 3 := by unfold putE; rw [clash_at hx HFR.out hvs]
          have HVS := Lib.hid hvs
          have HPL := Lib.hid hpl
          have HPE := Lib.hid hpe
          clear hvs hpl hpe
          cases hve : veq x v
          all_goals
            rw [hve] at hq
            go_wp2_with fail
            go_region_held3 (fun w' => Below wr.heap.size wr w' ∧ w'.cell? ⟨b, off + k * 6, none⟩ = some (.string x.key) ∧ w'.cell? ⟨b, off + k * 6 + 1, none⟩ = some (.string x.val) ∧ w'.cell? ⟨b, off + k * 6 + 2, none⟩ = some (.bool x.gone) ∧ w'.cell? ⟨b, off + k * 6 + 3, none⟩ = some (.int .u64 x.ts) ∧ w'.cell? ⟨b, off + k * 6 + 4, none⟩ = some (.int .i64 x.dc) ∧ w'.cell? ⟨b, off + k * 6 + 5, none⟩ = some (.int .i64 x.tx) ∧ w'.cell? ⟨w.heap.size, 0, none⟩ = some (.string v.key) ∧ w'.cell? ⟨w.heap.size, 1, none⟩ = some (.string v.val) ∧ w'.cell? ⟨w.heap.size, 2, none⟩ = some (.bool v.gone) ∧ w'.cell? ⟨w.heap.size, 3, none⟩ = some (.int .u64 v.ts) ∧ w'.cell? ⟨w.heap.size, 4, none⟩ = some (.int .i64 v.dc) ∧ w'.cell? ⟨w.heap.size, 5, none⟩ = some (.int .i64 v.tx))
              (first | (refine ⟨own_drew (own_refl _), ?_, ?_, ?_, ?_, ?_, ?_, ?_, ?_, ?_, ?_, ?_, ?_⟩ <;> (go_simp; done)) | (go_split_ands; refine ⟨below_own (by assumption) (by assumption), ?_, ?_, ?_, ?_, ?_, ?_, ?_, ?_, ?_, ?_, ?_, ?_⟩ <;> exact cell_on (by assumption) (by assumption)))
              (first | (go_at_call 30; refine (rless_any _ _ _).mono ?_; rintro e w1 ⟨rfl, hb1⟩; first | rw [hxv] | rw [hvx]))
            rename_i hS
            obtain ⟨hb', s0, s1, s2, s3, s4, s5, s6, s7, s8, s9, s10, s11⟩ := hS
            go_wp2
            go_quiet (fail)
            go_wp2
            go_ret2
            unfold PutIs
            rw [HPL.out, HPE.out]
          · exact ⟨none, 0, by rw [if_neg (by rw [hve]; simp)]; rfl, World.ownsRow_nil _ _ _ _, own_drewN (below_own hbw hb') _⟩
          · exact ⟨none, 0, by rw [if_pos hve]; rfl, World.ownsRow_nil _ _ _ _, own_drewN (below_own hbw hb') _⟩
        · have hfs : free (l.take (k + 1)) v = true := by rw [takeS hx, free_snoc, HFR.out]; unfold vsame; rw [hvx]; simp
          have HFS := Lib.hid hfs
          clear hfs
          go_wp2_with fail
          go_region_held3 (fun w' => Below wr.heap.size wr w' ∧ w'.cell? ⟨b, off + k * 6, none⟩ = some (.string x.key) ∧ w'.cell? ⟨b, off + k * 6 + 1, none⟩ = some (.string x.val) ∧ w'.cell? ⟨b, off + k * 6 + 2, none⟩ = some (.bool x.gone) ∧ w'.cell? ⟨b, off + k * 6 + 3, none⟩ = some (.int .u64 x.ts) ∧ w'.cell? ⟨b, off + k * 6 + 4, none⟩ = some (.int .i64 x.dc) ∧ w'.cell? ⟨b, off + k * 6 + 5, none⟩ = some (.int .i64 x.tx) ∧ w'.cell? ⟨w.heap.size, 0, none⟩ = some (.string v.key) ∧ w'.cell? ⟨w.heap.size, 1, none⟩ = some (.string v.val) ∧ w'.cell? ⟨w.heap.size, 2, none⟩ = some (.bool v.gone) ∧ w'.cell? ⟨w.heap.size, 3, none⟩ = some (.int .u64 v.ts) ∧ w'.cell? ⟨w.heap.size, 4, none⟩ = some (.int .i64 v.dc) ∧ w'.cell? ⟨w.heap.size, 5, none⟩ = some (.int .i64 v.tx))
            (first | (refine ⟨own_drew (own_refl _), ?_, ?_, ?_, ?_, ?_, ?_, ?_, ?_, ?_, ?_, ?_, ?_⟩ <;> (go_simp; done)) | (go_split_ands; refine ⟨below_own (by assumption) (by assumption), ?_, ?_, ?_, ?_, ?_, ?_, ?_, ?_, ?_, ?_, ?_, ?_⟩ <;> exact cell_on (by assumption) (by assumption)))
            (first | (go_at_call 30; refine (rless_any _ _ _).mono ?_; rintro e w1 ⟨rfl, hb1⟩; first | rw [hxv] | rw [hvx]))
          rename_i hS
          obtain ⟨hb', s0, s1, s2, s3, s4, s5, s6, s7, s8, s9, s10, s11⟩ := hS
          go_wp2
          go_roundw
          case rel => exact ⟨k + 1, by omega, by go_num, below_own hbel hb', HFS.out⟩
          case measure => simp [intOf]; omega
      · have hfs : free (l.take (k + 1)) v = true := by rw [takeS hx, free_snoc, HFR.out]; unfold vsame; rw [hxv]; simp
        have HFS := Lib.hid hfs
        clear hfs
        go_wp2_with fail
        first | (go_region_with (first | (go_at_call 30; refine (rless_any x v _).mono ?_; rintro e w1 ⟨rfl, hb1⟩; rw [hxv]))) | fail
        all_goals
          go_wp2
          go_roundw
          case rel => exact ⟨k + 1, by omega, by go_num, below_own hbel ⟨hb1.os, hb1.tape, hb1.output, hb1.size, hb1.block⟩, HFS.out⟩
          case measure => simp [intOf]; omega
    · obtain rfl : k = n := by omega
      have hfree : free l v = true := by have := HFR.out; rwa [← hn, List.take_length] at this
      have HF := Lib.hid hfree
      clear hfree
      go_wp2
      go_loopw [7, 8, 9] (fun o q i wr => ∃ (k' : Nat) (g : Bool) (D : Option Addr) (cp : Nat), k' ≤ k ∧ i = .int .i64 k' ∧ q = .bool g ∧ anyGt (l.take k') v = g ∧ o = .slice D (outTo l v k').length cp ∧ wr.ownsRow (w.heap.size + 1) 25 6 (.slice D (outTo l v k').length cp) (outTo l v k').length (flatV (outTo l v k')) ∧ Below (w.alloc (.cells #[.string v.key, .string v.val, .bool v.gone, .int .u64 v.ts, .int .i64 v.dc, .int .i64 v.tx] 25)).heap.size (w.alloc (.cells #[.string v.key, .string v.val, .bool v.gone, .int .u64 v.ts, .int .i64 v.dc, .int .i64 v.tx] 25)) wr) (fun _ _ i _ => k - (intOf i).toNat)
      case atStart => exact ⟨0, false, none, 0, Nat.zero_le _, rfl, rfl, rfl, rfl, World.ownsRow_nil _ _ _ _, hbel⟩
      case round =>
        obtain ⟨i, g, D, cp, hi, rfl, rfl, hg, rfl, hown, hbel⟩ := hrel
        have HG := Lib.hid hg
        clear hg
        have hbw := below_box hbel
        have hlen := outTo_len l v i
        by_cases hlt : i < k
        · obtain ⟨x, hx⟩ : ∃ x, l[i]? = some x := ⟨_, List.getElem?_eq_getElem (by omega)⟩
          obtain ⟨b, off, rfl, hc⟩ := hA.ver hx
          obtain ⟨c0, c1, c2, c3, c4, c5⟩ := hc i x hx
          have x0 := cell_on hbw c0
          have x1 := cell_on hbw c1
          have x2 := cell_on hbw c2
          have x3 := cell_on hbw c3
          have x4 := cell_on hbw c4
          have x5 := cell_on hbw c5
          have v0 : wr.cell? ⟨w.heap.size, 0, none⟩ = some (.string v.key) := (box_on hbel).1 0
          have v1 : wr.cell? ⟨w.heap.size, 1, none⟩ = some (.string v.val) := (box_on hbel).1 1
          have v2 : wr.cell? ⟨w.heap.size, 2, none⟩ = some (.bool v.gone) := (box_on hbel).1 2
          have v3 : wr.cell? ⟨w.heap.size, 3, none⟩ = some (.int .u64 v.ts) := (box_on hbel).1 3
          have v4 : wr.cell? ⟨w.heap.size, 4, none⟩ = some (.int .i64 v.dc) := (box_on hbel).1 4
          have v5 : wr.cell? ⟨w.heap.size, 5, none⟩ = some (.int .i64 v.tx) := (box_on hbel).1 5
          have g3 : (0 : Int) ≤ (i : Int) := by omega
          have g4 : (i : Int) < (k : Int) := by omega
          clear hc
          cases g
          · cases hvx : vlt v x
            · obtain ⟨e1, e2⟩ := outTo_not hx HG.out hvx
              have E1 := Lib.hid e1
              have E2 := Lib.hid e2
              clear e1 e2
              go_wp2_with fail
              go_region_held3 (fun w' => Below wr.heap.size wr w' ∧ w'.cell? ⟨b, off + i * 6, none⟩ = some (.string x.key) ∧ w'.cell? ⟨b, off + i * 6 + 1, none⟩ = some (.string x.val) ∧ w'.cell? ⟨b, off + i * 6 + 2, none⟩ = some (.bool x.gone) ∧ w'.cell? ⟨b, off + i * 6 + 3, none⟩ = some (.int .u64 x.ts) ∧ w'.cell? ⟨b, off + i * 6 + 4, none⟩ = some (.int .i64 x.dc) ∧ w'.cell? ⟨b, off + i * 6 + 5, none⟩ = some (.int .i64 x.tx) ∧ w'.cell? ⟨w.heap.size, 0, none⟩ = some (.string v.key) ∧ w'.cell? ⟨w.heap.size, 1, none⟩ = some (.string v.val) ∧ w'.cell? ⟨w.heap.size, 2, none⟩ = some (.bool v.gone) ∧ w'.cell? ⟨w.heap.size, 3, none⟩ = some (.int .u64 v.ts) ∧ w'.cell? ⟨w.heap.size, 4, none⟩ = some (.int .i64 v.dc) ∧ w'.cell? ⟨w.heap.size, 5, none⟩ = some (.int .i64 v.tx))
                (first | (refine ⟨own_drew (own_refl _), ?_, ?_, ?_, ?_, ?_, ?_, ?_, ?_, ?_, ?_, ?_, ?_⟩ <;> (go_simp; done)) | (go_split_ands; refine ⟨below_own (by assumption) (by assumption), ?_, ?_, ?_, ?_, ?_, ?_, ?_, ?_, ?_, ?_, ?_, ?_⟩ <;> exact cell_on (by assumption) (by assumption)))
                (first | (go_at_call 30; refine (rless_any v x _).mono ?_; rintro e w1 ⟨rfl, hb1⟩; rw [hvx]))
              rename_i hS
              obtain ⟨hb', s0, s1, s2, s3, s4, s5, s6, s7, s8, s9, s10, s11⟩ := hS
              go_wp2_with (at_builtin; refine wpList_append_lies _ rfl _ _ 22 rfl (w.heap.size + 1) 25 i0 (.agg #[.string ⟨#[]⟩, .string ⟨#[]⟩, .bool false, .int .u64 0, .int .i64 0, .int .i64 0]) 6 64 Try.underlying22 hi0 hz0 hz1 hz2 rfl (by omega) _ _ _ rfl ((own_on hown hb').alloc _) _ 1 1 x.cells rfl rfl (news_at _ _ _ _ (by first | rfl | (show _ = (Array.push _ _).size; simp))) (one_ver x) (by omega) (by unfold maxLen; omega) (by omega) (base_ok (below_own hbel hb')) _ rfl ?_; intro g1 cap1 w21 hown21 hgrow21 hat21 hlt21)
              go_roundw
              case rel => exact ⟨i + 1, false, some ⟨g1, 0, none⟩, cap1, by omega, by go_num, rfl, E2.out, by rw [E1.out]; simp, by rw [E1.out, flatV_snoc]; simpa using hown21, below_grown (own_alloc (below_own hbel hb') _) ((own_on hown hb').alloc _) (by simp) hgrow21⟩
              case measure => simp [intOf]; omega
            · obtain ⟨e1, e2⟩ := outTo_new hx HG.out hvx
              have E1 := Lib.hid e1
              have E2 := Lib.hid e2
              clear e1 e2
              have tok1 : True := trivial
              go_wp2_with fail
              go_region_held3 (fun w' => Below wr.heap.size wr w' ∧ w'.cell? ⟨b, off + i * 6, none⟩ = some (.string x.key) ∧ w'.cell? ⟨b, off + i * 6 + 1, none⟩ = some (.string x.val) ∧ w'.cell? ⟨b, off + i * 6 + 2, none⟩ = some (.bool x.gone) ∧ w'.cell? ⟨b, off + i * 6 + 3, none⟩ = some (.int .u64 x.ts) ∧ w'.cell? ⟨b, off + i * 6 + 4, none⟩ = some (.int .i64 x.dc) ∧ w'.cell? ⟨b, off + i * 6 + 5, none⟩ = some (.int .i64 x.tx) ∧ w'.cell? ⟨w.heap.size, 0, none⟩ = some (.string v.key) ∧ w'.cell? ⟨w.heap.size, 1, none⟩ = some (.string v.val) ∧ w'.cell? ⟨w.heap.size, 2, none⟩ = some (.bool v.gone) ∧ w'.cell? ⟨w.heap.size, 3, none⟩ = some (.int .u64 v.ts) ∧ w'.cell? ⟨w.heap.size, 4, none⟩ = some (.int .i64 v.dc) ∧ w'.cell? ⟨w.heap.size, 5, none⟩ = some (.int .i64 v.tx))
                (first | (refine ⟨own_drew (own_refl _), ?_, ?_, ?_, ?_, ?_, ?_, ?_, ?_, ?_, ?_, ?_, ?_⟩ <;> (go_simp; done)) | (go_split_ands; refine ⟨below_own (by assumption) (by assumption), ?_, ?_, ?_, ?_, ?_, ?_, ?_, ?_, ?_, ?_, ?_, ?_⟩ <;> exact cell_on (by assumption) (by assumption)))
                (first | (go_at_call 30; refine (rless_any v x _).mono ?_; rintro e w1 ⟨rfl, hb1⟩; rw [hvx]))
              rename_i hS
              obtain ⟨hb', s0, s1, s2, s3, s4, s5, s6, s7, s8, s9, s10, s11⟩ := hS
              go_wp2_with (first | (at_builtin; have _t := tok1; refine wpList_append_lies _ rfl _ _ 22 rfl (w.heap.size + 1) 25 i0 (.agg #[.string ⟨#[]⟩, .string ⟨#[]⟩, .bool false, .int .u64 0, .int .i64 0, .int .i64 0]) 6 64 Try.underlying22 hi0 hz0 hz1 hz2 rfl (by omega) _ _ _ rfl ((own_on hown hb').alloc _) _ 1 1 v.cells rfl rfl (news_at _ _ _ _ (by first | rfl | (show _ = (Array.push _ _).size; simp))) (one_ver v) (by omega) (by unfold maxLen; omega) (by omega) (base_ok (below_own hbel hb')) _ rfl ?_; intro g1 cap1 w21 hown21 hgrow21 hat21 hlt21; clear tok1; have hbg := below_grown (own_alloc (below_own hbel hb') _) ((own_on hown hb').alloc _) (by simp) hgrow21; have hbgw := below_box hbg; have y0 := cell_on hbgw c0; have y1 := cell_on hbgw c1; have y2 := cell_on hbgw c2; have y3 := cell_on hbgw c3; have y4 := cell_on hbgw c4; have y5 := cell_on hbgw c5) | (at_builtin; refine wpList_append_lies _ rfl _ _ 22 rfl (w.heap.size + 1) 25 i0 (.agg #[.string ⟨#[]⟩, .string ⟨#[]⟩, .bool false, .int .u64 0, .int .i64 0, .int .i64 0]) 6 64 Try.underlying22 hi0 hz0 hz1 hz2 rfl (by omega) _ _ _ rfl ((hown21).alloc _) _ 1 1 x.cells rfl rfl (news_at _ _ _ _ (by first | rfl | (show _ = (Array.push _ _).size; simp))) (one_ver x) (by omega) (by unfold maxLen; omega) (by omega) (base_ok (hbg)) _ rfl ?_; intro g2 cap2 w22 hown22 hgrow22 hat22 hlt22))
              go_roundw
              case rel => exact ⟨i + 1, true, some ⟨g2, 0, none⟩, cap2, by omega, by go_num, rfl, E2.out, by rw [E1.out]; simp, by rw [E1.out, flatV_snoc, flatV_snoc]; simpa using hown22, below_grown (own_alloc hbg _) (hown21.alloc _) (by simp) hgrow22⟩
              case measure => simp [intOf]; omega
          · obtain ⟨e1, e2⟩ := outTo_old hx HG.out
            have E1 := Lib.hid e1
            have E2 := Lib.hid e2
            clear e1 e2
            go_wp2_with fail
            go_quiet (fail)
            go_wp2_with (at_builtin; refine wpList_append_lies _ rfl _ _ 22 rfl (w.heap.size + 1) 25 i0 (.agg #[.string ⟨#[]⟩, .string ⟨#[]⟩, .bool false, .int .u64 0, .int .i64 0, .int .i64 0]) 6 64 Try.underlying22 hi0 hz0 hz1 hz2 rfl (by omega) _ _ _ rfl ((row_drewN hown _).alloc _) _ 1 1 x.cells rfl rfl (news_at _ _ _ _ (by first | rfl | (show _ = (Array.push _ _).size; simp))) (one_ver x) (by omega) (by unfold maxLen; omega) (by omega) (base_ok (own_drewN hbel _)) _ rfl ?_; intro g1 cap1 w21 hown21 hgrow21 hat21 hlt21)
            go_roundw
            case rel => exact ⟨i + 1, true, some ⟨g1, 0, none⟩, cap1, by omega, by go_num, rfl, E2.out, by rw [E1.out]; simp, by rw [E1.out, flatV_snoc]; simpa using hown21, below_grown (own_alloc (own_drewN hbel _) _) ((row_drewN hown _).alloc _) (by simp) hgrow21⟩
            case measure => simp [intOf]; omega
        · obtain rfl : i = k := by omega
          have hout : outTo l v i = if g = true then ins l v else l := by
            have h1 := HG.out
            unfold outTo
            rw [← hn, List.take_length] at *
            rw [h1]
          have hpl : putL l v = ins l v := by unfold putL; rw [if_pos HF.out]
          have hpe : putE l v = 0 := by unfold putE; rw [clash_none HF.out]
          have HO := Lib.hid hout
          have HPL := Lib.hid hpl
          have HPE := Lib.hid hpe
          clear hout hpl hpe
          have v0 : wr.cell? ⟨w.heap.size, 0, none⟩ = some (.string v.key) := (box_on hbel).1 0
          have v1 : wr.cell? ⟨w.heap.size, 1, none⟩ = some (.string v.val) := (box_on hbel).1 1
          have v2 : wr.cell? ⟨w.heap.size, 2, none⟩ = some (.bool v.gone) := (box_on hbel).1 2
          have v3 : wr.cell? ⟨w.heap.size, 3, none⟩ = some (.int .u64 v.ts) := (box_on hbel).1 3
          have v4 : wr.cell? ⟨w.heap.size, 4, none⟩ = some (.int .i64 v.dc) := (box_on hbel).1 4
          have v5 : wr.cell? ⟨w.heap.size, 5, none⟩ = some (.int .i64 v.tx) := (box_on hbel).1 5
          cases g
          · have hin : ins l v = l ++ [v] := ins_none l v (by have h1 := HG.out; rwa [← hn, List.take_length] at h1)
            have HI := Lib.hid hin
            clear hin
            go_wp2_with (at_builtin; refine wpList_append_lies _ rfl _ _ 22 rfl (w.heap.size + 1) 25 i0 (.agg #[.string ⟨#[]⟩, .string ⟨#[]⟩, .bool false, .int .u64 0, .int .i64 0, .int .i64 0]) 6 64 Try.underlying22 hi0 hz0 hz1 hz2 rfl (by omega) _ _ _ rfl ((hown).alloc _) _ 1 1 v.cells rfl rfl (news_at _ _ _ _ (by first | rfl | (show _ = (Array.push _ _).size; simp))) (one_ver v) (by omega) (by unfold maxLen; omega) (by omega) (base_ok (hbel)) _ rfl ?_; intro g1 cap1 w21 hown21 hgrow21 hat21 hlt21)
            go_ret2
            unfold PutIs
            have hO : outTo l v i = l := by rw [HO.out]; rfl
            rw [HPL.out, HPE.out, HI.out]
            rw [hO] at hown21
            exact ⟨some ⟨g1, 0, none⟩, cap1, by rw [hO]; simp, by rw [flatV_snoc]; exact own_weaken (by simpa using hown21) (by omega), below_box (below_grown (own_alloc hbel _) (hown.alloc _) (by simp) hgrow21)⟩
          · go_wp2
            go_ret2
            unfold PutIs
            have hO : outTo l v i = ins l v := by rw [HO.out]; rfl
            rw [HPL.out, HPE.out]
            rw [hO] at hown
            exact ⟨D, cp, by rw [hO]; rfl, own_weaken hown (by omega), hbw⟩
end Go.Proofs.Ytpiifgmegdphpaa
