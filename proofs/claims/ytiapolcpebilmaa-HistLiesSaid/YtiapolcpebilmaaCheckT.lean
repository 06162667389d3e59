/-
  How a history is judged: the program's walk. Conditions: the history lies as the hypotheses say.
-/
import Derived.Test.YtiapolcpebilmaaWantT
import Derived.Test.YtiapolcpebilmaaCheckP
import Derived.Test.YtiapolcpebilmaaBridge
import Derived.Deep.RegionHeld3
import Derived.Deep.QuietTactic
import Derived.BigQuiet
import Derived.Outline
import Derived.Lib.Hide
import Derived.IntWalk
import Derived.BigRegion
namespace Go.Proofs.Ytiapolcpebilmaa
open Go.RowKit Go.ChangeShapes Go.WideShapes Go.Deep Go.Maps
set_option linter.unusedVariables false

/-- what a judgement answers. -/
def CheckIs (l : List Txn) (w : World) (e : Ending) (w' : World) : Prop := e = .returned (.tuple #[.int .i64 (check l).1, .int .i64 (check l).2]) ∧ Below w.heap.size w w'
theorem twin_run (a b : Txn) (u : Bool) (h : twin a b = u) (w : World) : (binOp .eql 41 (.agg #[.int .u64 a.ts, .int .i64 a.dc, .int .i64 a.tx]) (.agg #[.int .u64 b.ts, .int .i64 b.dc, .int .i64 b.tx])).run Try.prog w = .ok (.bool u) w := by
  rw [mark_eq, ← h]; rfl
theorem pair_twin {a b : Txn} (h1 : a.has = true) (h2 : b.has = true) (h3 : twin a b = true) : pairF a b = 1 := by unfold pairF; rw [h1, h2, h3]; rfl
set_option maxRecDepth 100000 in
set_option maxHeartbeats 8000000 in
theorem hcheck_any (A : Option Addr) (n c : Nat) (l : List TI) (w : World) (hn : l.length = n) (hA : Cells w A (flatTI l)) (hm : n ≤ 9223372036854775807) (hall : ∀ x ∈ l, x.ok w) :
    Calls Try.prog 9 #[.slice A n c] w (CheckIs (l.map TI.t) w) := by
  go_enter Try.func9, Try.ntmps9
  go_wp2
  go_loopw [15] (fun q wr => ∃ (k : Nat), k ≤ n ∧ q = .int .i64 k ∧ markF (l.map TI.t) k = none ∧ Below w.heap.size w wr) (fun q _ => n - (intOf q).toNat)
  case atStart => exact ⟨0, Nat.zero_le _, rfl, rfl, own_refl _⟩
  case round =>
    obtain ⟨k, hk, rfl, hmk, hbel⟩ := hrel
    have HM := Lib.hid hmk
    clear hmk
    by_cases hlt : k < n
    · obtain ⟨x, hx⟩ : ∃ x, l[k]? = some x := ⟨_, List.getElem?_eq_getElem (by omega)⟩
      have hx' : (l.map TI.t)[k]? = some x.t := by rw [List.getElem?_map, hx]; rfl
      have HX := Lib.hid hx'
      obtain ⟨b, off, hAe, x0, x1, x2, x3, x4, x5, x6, x7⟩ := get_tx (hA.on hbel) hx
      subst hAe
      have g3 : (0 : Int) ≤ (k : Int) := by omega
      have g4 : (k : Int) < (n : Int) := by omega
      clear hx'
      go_wp2
      have ht1 := BoxT.new wr x 45
      have hbel1 := own_alloc hbel (.cells #[.int .i64 x.t.cl, .int .u64 x.t.sn, .int .i64 x.t.st, .int .u64 x.t.ts, .int .i64 x.t.dc, .int .i64 x.t.tx, .slice x.R x.t.rds.length x.rc, .slice x.D x.t.wrs.length x.dc] 45)
      obtain ⟨gT, hgT⟩ : ∃ g, wr.heap.size = g := ⟨_, rfl⟩
      rw [hgT] at ht1 ⊢
      clear x0 x1 x2 x3 x4 x5 x6 x7 hgT
      go_loopw [21] (fun q wr => ∃ (m : Nat), m ≤ k ∧ q = .int .i64 m ∧ rowF (l.map TI.t) x.t m = 0 ∧ Below w.heap.size w wr ∧ BoxT wr gT x) (fun q _ => k - (intOf q).toNat)
      case atStart => exact ⟨0, Nat.zero_le _, rfl, rfl, hbel1, ht1⟩
      case round =>
        clear ht1 hbel1 hbel
        obtain ⟨m, hmm, rfl, hro, hbelq, htq⟩ := hrel
        obtain ⟨wq, rfl⟩ : ∃ w0, w0 = wr := ⟨_, rfl⟩
        have HR := Lib.hid hro
        clear hro
        by_cases hlt2 : m < k
        · obtain ⟨z, hz⟩ : ∃ z, l[m]? = some z := ⟨_, List.getElem?_eq_getElem (by omega)⟩
          have HZ := Lib.hid (show (l.map TI.t)[m]? = some z.t by rw [List.getElem?_map, hz]; rfl)
          have hzc : ∀ W, Below w.heap.size w W → W.cell? ⟨b, off + m * 8, none⟩ = some (.int .i64 z.t.cl) ∧ W.cell? ⟨b, off + m * 8 + 1, none⟩ = some (.int .u64 z.t.sn) ∧ W.cell? ⟨b, off + m * 8 + 2, none⟩ = some (.int .i64 z.t.st) ∧ W.cell? ⟨b, off + m * 8 + 3, none⟩ = some (.int .u64 z.t.ts) ∧ W.cell? ⟨b, off + m * 8 + 4, none⟩ = some (.int .i64 z.t.dc) ∧ W.cell? ⟨b, off + m * 8 + 5, none⟩ = some (.int .i64 z.t.tx) ∧ W.cell? ⟨b, off + m * 8 + 6, none⟩ = some (.slice z.R z.t.rds.length z.rc) ∧ W.cell? ⟨b, off + m * 8 + 7, none⟩ = some (.slice z.D z.t.wrs.length z.dc) := fun W hW => by
            obtain ⟨b', off', he, h⟩ := get_tx (hA.on hW) hz
            obtain ⟨rfl, rfl⟩ : b = b' ∧ off = off' := by injection he with e; injection e with e1 e2; exact ⟨e1, e2⟩
            exact h
          have HZC := Lib.hid hzc
          clear hzc hz
          have q3 : (0 : Int) ≤ (m : Int) := by omega
          have q4 : (m : Int) < (n : Int) := by omega
          obtain ⟨⟨t0, t1, t2, t3, t4, t5, t6, t7⟩, -, -⟩ := id htq
          obtain ⟨z0, z1, z2, z3, z4, z5, z6, z7⟩ := HZC.out wq hbelq
          cases hu1 : x.t.has
          · have HU1 := Lib.hid hu1
            clear hu1
            go_wp2_with fail
            apply region_cut (fun W' => Below wq.heap.size wq W' ∧ BoxT W' gT x)
            · intro hK'
              refine region_plain (N := 19) rfl (by kernel_rfl) ?_
              refine wpAny_ready (rs := [0]) (by kernel_rfl) (by simp) (AllReady.cons rfl (fun K hK => ?_) AllReady.nil)
              go_simp
              refine hK _ _ ?_
              clear hK K
              refine wpAny_ready (rs := [1]) (by kernel_rfl) (by simp) (AllReady.cons rfl (fun K hK => ?_) AllReady.nil)
              go_simp
              refine (hhas_any x _).mono ?_
              rintro e w1 ⟨rfl, hb1⟩
              rw [HU1.out]
              have ho1 : Below wq.heap.size wq w1 := below_own (own_drew (own_refl _)) hb1
              have t0_1 := cell_on ho1 t0
              have t1_1 := cell_on ho1 t1
              have t2_1 := cell_on ho1 t2
              have t3_1 := cell_on ho1 t3
              have t4_1 := cell_on ho1 t4
              have t5_1 := cell_on ho1 t5
              have t6_1 := cell_on ho1 t6
              have t7_1 := cell_on ho1 t7
              have z0_1 := cell_on ho1 z0
              have z1_1 := cell_on ho1 z1
              have z2_1 := cell_on ho1 z2
              have z3_1 := cell_on ho1 z3
              have z4_1 := cell_on ho1 z4
              have z5_1 := cell_on ho1 z5
              have z6_1 := cell_on ho1 z6
              have z7_1 := cell_on ho1 z7
              refine hK _ _ ?_
              clear hK K
              refine wpAny_take (i := 2) (v := .bool false) rfl (by kernel_rfl) (by kernel_rfl) (by kernel_rfl) (fun _ _ _ h => h) (Or.inl ⟨by kernel_rfl, fun W => by go_simp⟩) ?_
              refine wpAny_take (i := 3) (v := undef) rfl (by kernel_rfl) (by kernel_rfl) (by kernel_rfl) (fun _ _ _ h => h) (Or.inr ⟨by kernel_rfl, rfl⟩) ?_
              refine wpAny_take (i := 4) (v := undef) rfl (by kernel_rfl) (by kernel_rfl) (by kernel_rfl) (fun _ _ _ h => h) (Or.inr ⟨by kernel_rfl, rfl⟩) ?_
              refine wpAny_take (i := 5) (v := undef) rfl (by kernel_rfl) (by kernel_rfl) (by kernel_rfl) (fun _ _ _ h => h) (Or.inr ⟨by kernel_rfl, rfl⟩) ?_
              refine wpAny_take (i := 6) (v := undef) rfl (by kernel_rfl) (by kernel_rfl) (by kernel_rfl) (fun _ _ _ h => h) (Or.inr ⟨by kernel_rfl, rfl⟩) ?_
              refine wpAny_take (i := 7) (v := undef) rfl (by kernel_rfl) (by kernel_rfl) (by kernel_rfl) (fun _ _ _ h => h) (Or.inr ⟨by kernel_rfl, rfl⟩) ?_
              refine wpAny_take (i := 8) (v := .bool false) rfl (by kernel_rfl) (by kernel_rfl) (by kernel_rfl) (fun _ _ _ h => h) (Or.inl ⟨by kernel_rfl, fun W => by go_simp⟩) ?_
              refine wpAny_take (i := 9) (v := .bool false) rfl (by kernel_rfl) (by kernel_rfl) (by kernel_rfl) (fun _ _ _ h => h) (Or.inl ⟨by kernel_rfl, fun W => by go_simp⟩) ?_
              refine wpAny_take (i := 10) (v := undef) rfl (by kernel_rfl) (by kernel_rfl) (by kernel_rfl) (fun _ _ _ h => h) (Or.inr ⟨by kernel_rfl, rfl⟩) ?_
              refine wpAny_take (i := 11) (v := undef) rfl (by kernel_rfl) (by kernel_rfl) (by kernel_rfl) (fun _ _ _ h => h) (Or.inr ⟨by kernel_rfl, rfl⟩) ?_
              refine wpAny_take (i := 12) (v := undef) rfl (by kernel_rfl) (by kernel_rfl) (by kernel_rfl) (fun _ _ _ h => h) (Or.inr ⟨by kernel_rfl, rfl⟩) ?_
              refine wpAny_take (i := 13) (v := undef) rfl (by kernel_rfl) (by kernel_rfl) (by kernel_rfl) (fun _ _ _ h => h) (Or.inr ⟨by kernel_rfl, rfl⟩) ?_
              refine wpAny_take (i := 14) (v := undef) rfl (by kernel_rfl) (by kernel_rfl) (by kernel_rfl) (fun _ _ _ h => h) (Or.inr ⟨by kernel_rfl, rfl⟩) ?_
              refine wpAny_take (i := 15) (v := undef) rfl (by kernel_rfl) (by kernel_rfl) (by kernel_rfl) (fun _ _ _ h => h) (Or.inr ⟨by kernel_rfl, rfl⟩) ?_
              refine wpAny_take (i := 16) (v := undef) rfl (by kernel_rfl) (by kernel_rfl) (by kernel_rfl) (fun _ _ _ h => h) (Or.inr ⟨by kernel_rfl, rfl⟩) ?_
              refine wpAny_take (i := 17) (v := undef) rfl (by kernel_rfl) (by kernel_rfl) (by kernel_rfl) (fun _ _ _ h => h) (Or.inr ⟨by kernel_rfl, rfl⟩) ?_
              refine wpAny_take (i := 18) (v := .bool false) rfl (by kernel_rfl) (by kernel_rfl) (by kernel_rfl) (fun _ _ _ h => h) (Or.inl ⟨by kernel_rfl, fun W => by go_simp⟩) ?_
              refine wpAny_done (by kernel_rfl) ?_ _
              simp only [onlyN]
              go_simp
              exact hK' _ ⟨ho1, htq.on (ho1)⟩
            · intro wX ⟨hbX, htX⟩
              have hbelX := below_own hbelq hbX
              clear hbX hbelq htq t0 t1 t2 t3 t4 t5 t6 t7 z0 z1 z2 z3 z4 z5 z6 z7
              go_wp2_with fail
              clear wq
              obtain ⟨wq, rfl⟩ : ∃ w0, w0 = wX := ⟨_, rfl⟩
              have hbelq := hbelX
              have htq := htX
              clear hbelX htX
              obtain ⟨⟨t0, t1, t2, t3, t4, t5, t6, t7⟩, -, -⟩ := id htq
              obtain ⟨z0, z1, z2, z3, z4, z5, z6, z7⟩ := HZC.out wq hbelq
              cases hcl : (z.t.cl == x.t.cl)
              · have HC := Lib.hid hcl
                go_wp2_with fail
                apply region_cut (fun W' => Below wq.heap.size wq W' ∧ BoxT W' gT x)
                · intro hK'
                  refine region_plain (N := 41) rfl (by kernel_rfl) ?_
                  refine wpAny_take (i := 0) (v := .slice (some ⟨b, off, none⟩) n c) rfl (by kernel_rfl) (by kernel_rfl) (by kernel_rfl) (fun _ _ _ h => h) (Or.inl ⟨by kernel_rfl, fun W => by go_simp⟩) ?_
                  refine wpAny_take (i := 1) (v := .int .i64 m) rfl (by kernel_rfl) (by kernel_rfl) (by kernel_rfl) (fun _ _ _ h => h) (Or.inl ⟨by kernel_rfl, fun W => by go_simp⟩) ?_
                  refine wpAny_take (i := 2) (v := .pointer (some ⟨b, off + m * 8, none⟩)) rfl (by kernel_rfl) (by kernel_rfl) (by kernel_rfl) (fun _ _ _ h => h) (Or.inl ⟨by kernel_rfl, fun W => by go_simp⟩) ?_
                  refine wpAny_take (i := 3) (v := .pointer (some ⟨b, off + m * 8, none⟩)) rfl (by kernel_rfl) (by kernel_rfl) (by kernel_rfl) (fun _ _ _ h => h) (Or.inl ⟨by kernel_rfl, fun W => by go_simp⟩) ?_
                  refine wpAny_take (i := 5) (v := .pointer (some ⟨gT, 0, none⟩)) rfl (by kernel_rfl) (by kernel_rfl) (by kernel_rfl) (fun _ _ _ h => h) (Or.inl ⟨by kernel_rfl, fun W => by go_simp⟩) ?_
                  apply cut2
                  · intro hS
                    refine wpAny_ready (rs := [4, 6]) (by kernel_rfl) (by simp) (AllReady.cons rfl (fun K hK => ?_) (AllReady.cons rfl (fun K hK => ?_) AllReady.nil))
                    · go_simp
                      refine hK _ _ ?_
                      clear hK K
                      refine wpAny_ready (rs := [6]) (by kernel_rfl) (by simp) (AllReady.cons rfl (fun K hK => ?_) AllReady.nil)
                      go_simp
                      refine hK _ _ ?_
                      clear hK K
                      exact hS
                    · go_simp
                      refine hK _ _ ?_
                      clear hK K
                      refine wpAny_ready (rs := [4]) (by kernel_rfl) (by simp) (AllReady.cons rfl (fun K hK => ?_) AllReady.nil)
                      go_simp
                      refine hK _ _ ?_
                      clear hK K
                      exact wpAny_swap hS (by kernel_rfl)
                  · refine wpAny_take (i := 7) (v := .bool false) rfl (by kernel_rfl) (by kernel_rfl) (by kernel_rfl) (fun _ _ _ h => h) (Or.inl ⟨by kernel_rfl, fun W => by go_simp⟩) ?_
                    refine wpAny_take (i := 8) (v := .bool false) rfl (by kernel_rfl) (by kernel_rfl) (by kernel_rfl) (fun _ _ _ h => h) (Or.inl ⟨by kernel_rfl, fun W => by go_simp⟩) ?_
                    refine wpAny_take (i := 9) (v := undef) rfl (by kernel_rfl) (by kernel_rfl) (by kernel_rfl) (fun _ _ _ h => h) (Or.inr ⟨by kernel_rfl, rfl⟩) ?_
                    refine wpAny_take (i := 10) (v := undef) rfl (by kernel_rfl) (by kernel_rfl) (by kernel_rfl) (fun _ _ _ h => h) (Or.inr ⟨by kernel_rfl, rfl⟩) ?_
                    refine wpAny_take (i := 11) (v := undef) rfl (by kernel_rfl) (by kernel_rfl) (by kernel_rfl) (fun _ _ _ h => h) (Or.inr ⟨by kernel_rfl, rfl⟩) ?_
                    refine wpAny_take (i := 12) (v := undef) rfl (by kernel_rfl) (by kernel_rfl) (by kernel_rfl) (fun _ _ _ h => h) (Or.inr ⟨by kernel_rfl, rfl⟩) ?_
                    refine wpAny_take (i := 13) (v := undef) rfl (by kernel_rfl) (by kernel_rfl) (by kernel_rfl) (fun _ _ _ h => h) (Or.inr ⟨by kernel_rfl, rfl⟩) ?_
                    refine wpAny_take (i := 14) (v := undef) rfl (by kernel_rfl) (by kernel_rfl) (by kernel_rfl) (fun _ _ _ h => h) (Or.inr ⟨by kernel_rfl, rfl⟩) ?_
                    refine wpAny_take (i := 15) (v := undef) rfl (by kernel_rfl) (by kernel_rfl) (by kernel_rfl) (fun _ _ _ h => h) (Or.inr ⟨by kernel_rfl, rfl⟩) ?_
                    refine wpAny_take (i := 16) (v := undef) rfl (by kernel_rfl) (by kernel_rfl) (by kernel_rfl) (fun _ _ _ h => h) (Or.inr ⟨by kernel_rfl, rfl⟩) ?_
                    refine wpAny_take (i := 17) (v := undef) rfl (by kernel_rfl) (by kernel_rfl) (by kernel_rfl) (fun _ _ _ h => h) (Or.inr ⟨by kernel_rfl, rfl⟩) ?_
                    refine wpAny_take (i := 18) (v := undef) rfl (by kernel_rfl) (by kernel_rfl) (by kernel_rfl) (fun _ _ _ h => h) (Or.inr ⟨by kernel_rfl, rfl⟩) ?_
                    refine wpAny_take (i := 19) (v := undef) rfl (by kernel_rfl) (by kernel_rfl) (by kernel_rfl) (fun _ _ _ h => h) (Or.inr ⟨by kernel_rfl, rfl⟩) ?_
                    refine wpAny_take (i := 20) (v := undef) rfl (by kernel_rfl) (by kernel_rfl) (by kernel_rfl) (fun _ _ _ h => h) (Or.inr ⟨by kernel_rfl, rfl⟩) ?_
                    refine wpAny_take (i := 21) (v := undef) rfl (by kernel_rfl) (by kernel_rfl) (by kernel_rfl) (fun _ _ _ h => h) (Or.inr ⟨by kernel_rfl, rfl⟩) ?_
                    refine wpAny_take (i := 22) (v := undef) rfl (by kernel_rfl) (by kernel_rfl) (by kernel_rfl) (fun _ _ _ h => h) (Or.inr ⟨by kernel_rfl, rfl⟩) ?_
                    refine wpAny_take (i := 23) (v := undef) rfl (by kernel_rfl) (by kernel_rfl) (by kernel_rfl) (fun _ _ _ h => h) (Or.inr ⟨by kernel_rfl, rfl⟩) ?_
                    refine wpAny_take (i := 24) (v := undef) rfl (by kernel_rfl) (by kernel_rfl) (by kernel_rfl) (fun _ _ _ h => h) (Or.inr ⟨by kernel_rfl, rfl⟩) ?_
                    refine wpAny_take (i := 25) (v := undef) rfl (by kernel_rfl) (by kernel_rfl) (by kernel_rfl) (fun _ _ _ h => h) (Or.inr ⟨by kernel_rfl, rfl⟩) ?_
                    refine wpAny_take (i := 26) (v := undef) rfl (by kernel_rfl) (by kernel_rfl) (by kernel_rfl) (fun _ _ _ h => h) (Or.inr ⟨by kernel_rfl, rfl⟩) ?_
                    refine wpAny_take (i := 27) (v := undef) rfl (by kernel_rfl) (by kernel_rfl) (by kernel_rfl) (fun _ _ _ h => h) (Or.inr ⟨by kernel_rfl, rfl⟩) ?_
                    refine wpAny_take (i := 28) (v := undef) rfl (by kernel_rfl) (by kernel_rfl) (by kernel_rfl) (fun _ _ _ h => h) (Or.inr ⟨by kernel_rfl, rfl⟩) ?_
                    refine wpAny_take (i := 29) (v := undef) rfl (by kernel_rfl) (by kernel_rfl) (by kernel_rfl) (fun _ _ _ h => h) (Or.inr ⟨by kernel_rfl, rfl⟩) ?_
                    refine wpAny_take (i := 30) (v := undef) rfl (by kernel_rfl) (by kernel_rfl) (by kernel_rfl) (fun _ _ _ h => h) (Or.inr ⟨by kernel_rfl, rfl⟩) ?_
                    refine wpAny_take (i := 31) (v := undef) rfl (by kernel_rfl) (by kernel_rfl) (by kernel_rfl) (fun _ _ _ h => h) (Or.inr ⟨by kernel_rfl, rfl⟩) ?_
                    refine wpAny_take (i := 32) (v := undef) rfl (by kernel_rfl) (by kernel_rfl) (by kernel_rfl) (fun _ _ _ h => h) (Or.inr ⟨by kernel_rfl, rfl⟩) ?_
                    refine wpAny_take (i := 33) (v := undef) rfl (by kernel_rfl) (by kernel_rfl) (by kernel_rfl) (fun _ _ _ h => h) (Or.inr ⟨by kernel_rfl, rfl⟩) ?_
                    refine wpAny_take (i := 34) (v := undef) rfl (by kernel_rfl) (by kernel_rfl) (by kernel_rfl) (fun _ _ _ h => h) (Or.inr ⟨by kernel_rfl, rfl⟩) ?_
                    refine wpAny_take (i := 35) (v := undef) rfl (by kernel_rfl) (by kernel_rfl) (by kernel_rfl) (fun _ _ _ h => h) (Or.inr ⟨by kernel_rfl, rfl⟩) ?_
                    refine wpAny_take (i := 36) (v := undef) rfl (by kernel_rfl) (by kernel_rfl) (by kernel_rfl) (fun _ _ _ h => h) (Or.inr ⟨by kernel_rfl, rfl⟩) ?_
                    refine wpAny_take (i := 37) (v := undef) rfl (by kernel_rfl) (by kernel_rfl) (by kernel_rfl) (fun _ _ _ h => h) (Or.inr ⟨by kernel_rfl, rfl⟩) ?_
                    refine wpAny_take (i := 38) (v := undef) rfl (by kernel_rfl) (by kernel_rfl) (by kernel_rfl) (fun _ _ _ h => h) (Or.inr ⟨by kernel_rfl, rfl⟩) ?_
                    refine wpAny_take (i := 39) (v := undef) rfl (by kernel_rfl) (by kernel_rfl) (by kernel_rfl) (fun _ _ _ h => h) (Or.inr ⟨by kernel_rfl, rfl⟩) ?_
                    refine wpAny_take (i := 40) (v := .bool false) rfl (by kernel_rfl) (by kernel_rfl) (by kernel_rfl) (fun _ _ _ h => h) (Or.inl ⟨by kernel_rfl, fun W => by go_simp⟩) ?_
                    refine wpAny_done (by kernel_rfl) ?_ _
                    simp only [onlyN]
                    go_simp
                    exact hK' _ ⟨own_drew (own_refl _), htq.on (own_drew (own_refl _))⟩
                · intro wX ⟨hbX, htX⟩
                  have hbelX := below_own hbelq hbX
                  have hst := Lib.hid ((rowF_step HZ.out HR.out).trans (by unfold pairF; rw [HU1.out, HC.out] <;> rfl))
                  go_wp2
                  go_roundw
                  case rel => exact ⟨m + 1, by omega, by go_num, hst.out, hbelX, htX⟩
                  case measure => simp [intOf]; omega
              · have HC := Lib.hid hcl
                cases hsn : decide (x.t.sn < z.t.sn)
                · have HS := Lib.hid hsn
                  go_wp2_with fail
                  apply region_cut (fun W' => Below wq.heap.size wq W' ∧ BoxT W' gT x)
                  · intro hK'
                    refine region_plain (N := 41) rfl (by kernel_rfl) ?_
                    refine wpAny_take (i := 0) (v := .slice (some ⟨b, off, none⟩) n c) rfl (by kernel_rfl) (by kernel_rfl) (by kernel_rfl) (fun _ _ _ h => h) (Or.inl ⟨by kernel_rfl, fun W => by go_simp⟩) ?_
                    refine wpAny_take (i := 1) (v := .int .i64 m) rfl (by kernel_rfl) (by kernel_rfl) (by kernel_rfl) (fun _ _ _ h => h) (Or.inl ⟨by kernel_rfl, fun W => by go_simp⟩) ?_
                    refine wpAny_take (i := 2) (v := .pointer (some ⟨b, off + m * 8, none⟩)) rfl (by kernel_rfl) (by kernel_rfl) (by kernel_rfl) (fun _ _ _ h => h) (Or.inl ⟨by kernel_rfl, fun W => by go_simp⟩) ?_
                    refine wpAny_take (i := 3) (v := .pointer (some ⟨b, off + m * 8, none⟩)) rfl (by kernel_rfl) (by kernel_rfl) (by kernel_rfl) (fun _ _ _ h => h) (Or.inl ⟨by kernel_rfl, fun W => by go_simp⟩) ?_
                    refine wpAny_take (i := 5) (v := .pointer (some ⟨gT, 0, none⟩)) rfl (by kernel_rfl) (by kernel_rfl) (by kernel_rfl) (fun _ _ _ h => h) (Or.inl ⟨by kernel_rfl, fun W => by go_simp⟩) ?_
                    apply cut2
                    · intro hS
                      refine wpAny_ready (rs := [4, 6]) (by kernel_rfl) (by simp) (AllReady.cons rfl (fun K hK => ?_) (AllReady.cons rfl (fun K hK => ?_) AllReady.nil))
                      · go_simp
                        refine hK _ _ ?_
                        clear hK K
                        refine wpAny_ready (rs := [6]) (by kernel_rfl) (by simp) (AllReady.cons rfl (fun K hK => ?_) AllReady.nil)
                        go_simp
                        refine hK _ _ ?_
                        clear hK K
                        exact hS
                      · go_simp
                        refine hK _ _ ?_
                        clear hK K
                        refine wpAny_ready (rs := [4]) (by kernel_rfl) (by simp) (AllReady.cons rfl (fun K hK => ?_) AllReady.nil)
                        go_simp
                        refine hK _ _ ?_
                        clear hK K
                        exact wpAny_swap hS (by kernel_rfl)
                    · refine wpAny_take (i := 7) (v := .bool true) rfl (by kernel_rfl) (by kernel_rfl) (by kernel_rfl) (fun _ _ _ h => h) (Or.inl ⟨by kernel_rfl, fun W => by go_simp⟩) ?_
                      refine wpAny_take (i := 8) (v := .bool true) rfl (by kernel_rfl) (by kernel_rfl) (by kernel_rfl) (fun _ _ _ h => h) (Or.inl ⟨by kernel_rfl, fun W => by go_simp⟩) ?_
                      refine wpAny_take (i := 9) (v := .slice (some ⟨b, off, none⟩) n c) rfl (by kernel_rfl) (by kernel_rfl) (by kernel_rfl) (fun _ _ _ h => h) (Or.inl ⟨by kernel_rfl, fun W => by go_simp⟩) ?_
                      refine wpAny_take (i := 10) (v := .int .i64 m) rfl (by kernel_rfl) (by kernel_rfl) (by kernel_rfl) (fun _ _ _ h => h) (Or.inl ⟨by kernel_rfl, fun W => by go_simp⟩) ?_
                      refine wpAny_take (i := 11) (v := .pointer (some ⟨b, off + m * 8, none⟩)) rfl (by kernel_rfl) (by kernel_rfl) (by kernel_rfl) (fun _ _ _ h => h) (Or.inl ⟨by kernel_rfl, fun W => by go_simp⟩) ?_
                      refine wpAny_take (i := 12) (v := .pointer (some ⟨b, off + m * 8 + 1, none⟩)) rfl (by kernel_rfl) (by kernel_rfl) (by kernel_rfl) (fun _ _ _ h => h) (Or.inl ⟨by kernel_rfl, fun W => by go_simp⟩) ?_
                      refine wpAny_take (i := 14) (v := .pointer (some ⟨gT, 1, none⟩)) rfl (by kernel_rfl) (by kernel_rfl) (by kernel_rfl) (fun _ _ _ h => h) (Or.inl ⟨by kernel_rfl, fun W => by go_simp⟩) ?_
                      apply cut2
                      · intro hS
                        refine wpAny_ready (rs := [13, 15]) (by kernel_rfl) (by simp) (AllReady.cons rfl (fun K hK => ?_) (AllReady.cons rfl (fun K hK => ?_) AllReady.nil))
                        · go_simp
                          refine hK _ _ ?_
                          clear hK K
                          refine wpAny_ready (rs := [15]) (by kernel_rfl) (by simp) (AllReady.cons rfl (fun K hK => ?_) AllReady.nil)
                          go_simp
                          refine hK _ _ ?_
                          clear hK K
                          exact hS
                        · go_simp
                          refine hK _ _ ?_
                          clear hK K
                          refine wpAny_ready (rs := [13]) (by kernel_rfl) (by simp) (AllReady.cons rfl (fun K hK => ?_) AllReady.nil)
                          go_simp
                          refine hK _ _ ?_
                          clear hK K
                          exact wpAny_swap hS (by kernel_rfl)
                      · refine wpAny_take (i := 16) (v := .bool false) rfl (by kernel_rfl) (by kernel_rfl) (by kernel_rfl) (fun _ _ _ h => h) (Or.inl ⟨by kernel_rfl, fun W => by go_simp⟩) ?_
                        refine wpAny_take (i := 17) (v := .bool false) rfl (by kernel_rfl) (by kernel_rfl) (by kernel_rfl) (fun _ _ _ h => h) (Or.inl ⟨by kernel_rfl, fun W => by go_simp⟩) ?_
                        refine wpAny_ready (rs := [18]) (by kernel_rfl) (by simp) (AllReady.cons rfl (fun K hK => ?_) AllReady.nil)
                        go_simp
                        refine hK _ _ ?_
                        clear hK K
                        refine wpAny_ready (rs := [19]) (by kernel_rfl) (by simp) (AllReady.cons rfl (fun K hK => ?_) AllReady.nil)
                        go_simp
                        refine (hhas_any x _).mono ?_
                        rintro e w1 ⟨rfl, hb1⟩
                        rw [HU1.out]
                        have ho1 : Below wq.heap.size wq w1 := below_own (own_drew (own_refl _)) hb1
                        have t0_1 := cell_on ho1 t0
                        have t1_1 := cell_on ho1 t1
                        have t2_1 := cell_on ho1 t2
                        have t3_1 := cell_on ho1 t3
                        have t4_1 := cell_on ho1 t4
                        have t5_1 := cell_on ho1 t5
                        have t6_1 := cell_on ho1 t6
                        have t7_1 := cell_on ho1 t7
                        have z0_1 := cell_on ho1 z0
                        have z1_1 := cell_on ho1 z1
                        have z2_1 := cell_on ho1 z2
                        have z3_1 := cell_on ho1 z3
                        have z4_1 := cell_on ho1 z4
                        have z5_1 := cell_on ho1 z5
                        have z6_1 := cell_on ho1 z6
                        have z7_1 := cell_on ho1 z7
                        refine hK _ _ ?_
                        clear hK K
                        refine wpAny_take (i := 20) (v := .bool false) rfl (by kernel_rfl) (by kernel_rfl) (by kernel_rfl) (fun _ _ _ h => h) (Or.inl ⟨by kernel_rfl, fun W => by go_simp⟩) ?_
                        refine wpAny_take (i := 21) (v := undef) rfl (by kernel_rfl) (by kernel_rfl) (by kernel_rfl) (fun _ _ _ h => h) (Or.inr ⟨by kernel_rfl, rfl⟩) ?_
                        refine wpAny_take (i := 22) (v := undef) rfl (by kernel_rfl) (by kernel_rfl) (by kernel_rfl) (fun _ _ _ h => h) (Or.inr ⟨by kernel_rfl, rfl⟩) ?_
                        refine wpAny_take (i := 23) (v := undef) rfl (by kernel_rfl) (by kernel_rfl) (by kernel_rfl) (fun _ _ _ h => h) (Or.inr ⟨by kernel_rfl, rfl⟩) ?_
                        refine wpAny_take (i := 24) (v := undef) rfl (by kernel_rfl) (by kernel_rfl) (by kernel_rfl) (fun _ _ _ h => h) (Or.inr ⟨by kernel_rfl, rfl⟩) ?_
                        refine wpAny_take (i := 25) (v := undef) rfl (by kernel_rfl) (by kernel_rfl) (by kernel_rfl) (fun _ _ _ h => h) (Or.inr ⟨by kernel_rfl, rfl⟩) ?_
                        refine wpAny_take (i := 26) (v := .bool false) rfl (by kernel_rfl) (by kernel_rfl) (by kernel_rfl) (fun _ _ _ h => h) (Or.inl ⟨by kernel_rfl, fun W => by go_simp⟩) ?_
                        refine wpAny_take (i := 27) (v := .bool false) rfl (by kernel_rfl) (by kernel_rfl) (by kernel_rfl) (fun _ _ _ h => h) (Or.inl ⟨by kernel_rfl, fun W => by go_simp⟩) ?_
                        refine wpAny_take (i := 28) (v := undef) rfl (by kernel_rfl) (by kernel_rfl) (by kernel_rfl) (fun _ _ _ h => h) (Or.inr ⟨by kernel_rfl, rfl⟩) ?_
                        refine wpAny_take (i := 29) (v := undef) rfl (by kernel_rfl) (by kernel_rfl) (by kernel_rfl) (fun _ _ _ h => h) (Or.inr ⟨by kernel_rfl, rfl⟩) ?_
                        refine wpAny_take (i := 30) (v := undef) rfl (by kernel_rfl) (by kernel_rfl) (by kernel_rfl) (fun _ _ _ h => h) (Or.inr ⟨by kernel_rfl, rfl⟩) ?_
                        refine wpAny_take (i := 31) (v := undef) rfl (by kernel_rfl) (by kernel_rfl) (by kernel_rfl) (fun _ _ _ h => h) (Or.inr ⟨by kernel_rfl, rfl⟩) ?_
                        refine wpAny_take (i := 32) (v := undef) rfl (by kernel_rfl) (by kernel_rfl) (by kernel_rfl) (fun _ _ _ h => h) (Or.inr ⟨by kernel_rfl, rfl⟩) ?_
                        refine wpAny_take (i := 33) (v := undef) rfl (by kernel_rfl) (by kernel_rfl) (by kernel_rfl) (fun _ _ _ h => h) (Or.inr ⟨by kernel_rfl, rfl⟩) ?_
                        refine wpAny_take (i := 34) (v := undef) rfl (by kernel_rfl) (by kernel_rfl) (by kernel_rfl) (fun _ _ _ h => h) (Or.inr ⟨by kernel_rfl, rfl⟩) ?_
                        refine wpAny_take (i := 35) (v := undef) rfl (by kernel_rfl) (by kernel_rfl) (by kernel_rfl) (fun _ _ _ h => h) (Or.inr ⟨by kernel_rfl, rfl⟩) ?_
                        refine wpAny_take (i := 36) (v := undef) rfl (by kernel_rfl) (by kernel_rfl) (by kernel_rfl) (fun _ _ _ h => h) (Or.inr ⟨by kernel_rfl, rfl⟩) ?_
                        refine wpAny_take (i := 37) (v := undef) rfl (by kernel_rfl) (by kernel_rfl) (by kernel_rfl) (fun _ _ _ h => h) (Or.inr ⟨by kernel_rfl, rfl⟩) ?_
                        refine wpAny_take (i := 38) (v := .bool false) rfl (by kernel_rfl) (by kernel_rfl) (by kernel_rfl) (fun _ _ _ h => h) (Or.inl ⟨by kernel_rfl, fun W => by go_simp⟩) ?_
                        refine wpAny_take (i := 39) (v := .bool false) rfl (by kernel_rfl) (by kernel_rfl) (by kernel_rfl) (fun _ _ _ h => h) (Or.inl ⟨by kernel_rfl, fun W => by go_simp⟩) ?_
                        refine wpAny_take (i := 40) (v := .bool false) rfl (by kernel_rfl) (by kernel_rfl) (by kernel_rfl) (fun _ _ _ h => h) (Or.inl ⟨by kernel_rfl, fun W => by go_simp⟩) ?_
                        refine wpAny_done (by kernel_rfl) ?_ _
                        simp only [onlyN]
                        go_simp
                        exact hK' _ ⟨ho1, htq.on (ho1)⟩
                  · intro wX ⟨hbX, htX⟩
                    have hbelX := below_own hbelq hbX
                    have hst := Lib.hid ((rowF_step HZ.out HR.out).trans (by unfold pairF; rw [HU1.out, HC.out, HS.out] <;> rfl))
                    go_wp2
                    go_roundw
                    case rel => exact ⟨m + 1, by omega, by go_num, hst.out, hbelX, htX⟩
                    case measure => simp [intOf]; omega
                · have HS := Lib.hid hsn
                  go_wp2_with fail
                  apply region_cut (fun W' => Below wq.heap.size wq W' ∧ BoxT W' gT x)
                  · intro hK'
                    refine region_plain (N := 41) rfl (by kernel_rfl) ?_
                    refine wpAny_take (i := 0) (v := .slice (some ⟨b, off, none⟩) n c) rfl (by kernel_rfl) (by kernel_rfl) (by kernel_rfl) (fun _ _ _ h => h) (Or.inl ⟨by kernel_rfl, fun W => by go_simp⟩) ?_
                    refine wpAny_take (i := 1) (v := .int .i64 m) rfl (by kernel_rfl) (by kernel_rfl) (by kernel_rfl) (fun _ _ _ h => h) (Or.inl ⟨by kernel_rfl, fun W => by go_simp⟩) ?_
                    refine wpAny_take (i := 2) (v := .pointer (some ⟨b, off + m * 8, none⟩)) rfl (by kernel_rfl) (by kernel_rfl) (by kernel_rfl) (fun _ _ _ h => h) (Or.inl ⟨by kernel_rfl, fun W => by go_simp⟩) ?_
                    refine wpAny_take (i := 3) (v := .pointer (some ⟨b, off + m * 8, none⟩)) rfl (by kernel_rfl) (by kernel_rfl) (by kernel_rfl) (fun _ _ _ h => h) (Or.inl ⟨by kernel_rfl, fun W => by go_simp⟩) ?_
                    refine wpAny_take (i := 5) (v := .pointer (some ⟨gT, 0, none⟩)) rfl (by kernel_rfl) (by kernel_rfl) (by kernel_rfl) (fun _ _ _ h => h) (Or.inl ⟨by kernel_rfl, fun W => by go_simp⟩) ?_
                    apply cut2
                    · intro hS
                      refine wpAny_ready (rs := [4, 6]) (by kernel_rfl) (by simp) (AllReady.cons rfl (fun K hK => ?_) (AllReady.cons rfl (fun K hK => ?_) AllReady.nil))
                      · go_simp
                        refine hK _ _ ?_
                        clear hK K
                        refine wpAny_ready (rs := [6]) (by kernel_rfl) (by simp) (AllReady.cons rfl (fun K hK => ?_) AllReady.nil)
                        go_simp
                        refine hK _ _ ?_
                        clear hK K
                        exact hS
                      · go_simp
                        refine hK _ _ ?_
                        clear hK K
                        refine wpAny_ready (rs := [4]) (by kernel_rfl) (by simp) (AllReady.cons rfl (fun K hK => ?_) AllReady.nil)
                        go_simp
                        refine hK _ _ ?_
                        clear hK K
                        exact wpAny_swap hS (by kernel_rfl)
                    · refine wpAny_take (i := 7) (v := .bool true) rfl (by kernel_rfl) (by kernel_rfl) (by kernel_rfl) (fun _ _ _ h => h) (Or.inl ⟨by kernel_rfl, fun W => by go_simp⟩) ?_
                      refine wpAny_take (i := 8) (v := .bool true) rfl (by kernel_rfl) (by kernel_rfl) (by kernel_rfl) (fun _ _ _ h => h) (Or.inl ⟨by kernel_rfl, fun W => by go_simp⟩) ?_
                      refine wpAny_take (i := 9) (v := .slice (some ⟨b, off, none⟩) n c) rfl (by kernel_rfl) (by kernel_rfl) (by kernel_rfl) (fun _ _ _ h => h) (Or.inl ⟨by kernel_rfl, fun W => by go_simp⟩) ?_
                      refine wpAny_take (i := 10) (v := .int .i64 m) rfl (by kernel_rfl) (by kernel_rfl) (by kernel_rfl) (fun _ _ _ h => h) (Or.inl ⟨by kernel_rfl, fun W => by go_simp⟩) ?_
                      refine wpAny_take (i := 11) (v := .pointer (some ⟨b, off + m * 8, none⟩)) rfl (by kernel_rfl) (by kernel_rfl) (by kernel_rfl) (fun _ _ _ h => h) (Or.inl ⟨by kernel_rfl, fun W => by go_simp⟩) ?_
                      refine wpAny_take (i := 12) (v := .pointer (some ⟨b, off + m * 8 + 1, none⟩)) rfl (by kernel_rfl) (by kernel_rfl) (by kernel_rfl) (fun _ _ _ h => h) (Or.inl ⟨by kernel_rfl, fun W => by go_simp⟩) ?_
                      refine wpAny_take (i := 14) (v := .pointer (some ⟨gT, 1, none⟩)) rfl (by kernel_rfl) (by kernel_rfl) (by kernel_rfl) (fun _ _ _ h => h) (Or.inl ⟨by kernel_rfl, fun W => by go_simp⟩) ?_
                      apply cut2
                      · intro hS
                        refine wpAny_ready (rs := [13, 15]) (by kernel_rfl) (by simp) (AllReady.cons rfl (fun K hK => ?_) (AllReady.cons rfl (fun K hK => ?_) AllReady.nil))
                        · go_simp
                          refine hK _ _ ?_
                          clear hK K
                          refine wpAny_ready (rs := [15]) (by kernel_rfl) (by simp) (AllReady.cons rfl (fun K hK => ?_) AllReady.nil)
                          go_simp
                          refine hK _ _ ?_
                          clear hK K
                          exact hS
                        · go_simp
                          refine hK _ _ ?_
                          clear hK K
                          refine wpAny_ready (rs := [13]) (by kernel_rfl) (by simp) (AllReady.cons rfl (fun K hK => ?_) AllReady.nil)
                          go_simp
                          refine hK _ _ ?_
                          clear hK K
                          exact wpAny_swap hS (by kernel_rfl)
                      · refine wpAny_take (i := 16) (v := .bool true) rfl (by kernel_rfl) (by kernel_rfl) (by kernel_rfl) (fun _ _ _ h => h) (Or.inl ⟨by kernel_rfl, fun W => by go_simp⟩) ?_
                        refine wpAny_take (i := 17) (v := .bool true) rfl (by kernel_rfl) (by kernel_rfl) (by kernel_rfl) (fun _ _ _ h => h) (Or.inl ⟨by kernel_rfl, fun W => by go_simp⟩) ?_
                        refine wpAny_take (i := 18) (v := undef) rfl (by kernel_rfl) (by kernel_rfl) (by kernel_rfl) (fun _ _ _ h => h) (Or.inr ⟨by kernel_rfl, rfl⟩) ?_
                        refine wpAny_take (i := 19) (v := undef) rfl (by kernel_rfl) (by kernel_rfl) (by kernel_rfl) (fun _ _ _ h => h) (Or.inr ⟨by kernel_rfl, rfl⟩) ?_
                        refine wpAny_take (i := 20) (v := undef) rfl (by kernel_rfl) (by kernel_rfl) (by kernel_rfl) (fun _ _ _ h => h) (Or.inr ⟨by kernel_rfl, rfl⟩) ?_
                        refine wpAny_take (i := 21) (v := undef) rfl (by kernel_rfl) (by kernel_rfl) (by kernel_rfl) (fun _ _ _ h => h) (Or.inr ⟨by kernel_rfl, rfl⟩) ?_
                        refine wpAny_take (i := 22) (v := undef) rfl (by kernel_rfl) (by kernel_rfl) (by kernel_rfl) (fun _ _ _ h => h) (Or.inr ⟨by kernel_rfl, rfl⟩) ?_
                        refine wpAny_take (i := 23) (v := undef) rfl (by kernel_rfl) (by kernel_rfl) (by kernel_rfl) (fun _ _ _ h => h) (Or.inr ⟨by kernel_rfl, rfl⟩) ?_
                        refine wpAny_take (i := 24) (v := undef) rfl (by kernel_rfl) (by kernel_rfl) (by kernel_rfl) (fun _ _ _ h => h) (Or.inr ⟨by kernel_rfl, rfl⟩) ?_
                        refine wpAny_take (i := 25) (v := undef) rfl (by kernel_rfl) (by kernel_rfl) (by kernel_rfl) (fun _ _ _ h => h) (Or.inr ⟨by kernel_rfl, rfl⟩) ?_
                        refine wpAny_take (i := 26) (v := undef) rfl (by kernel_rfl) (by kernel_rfl) (by kernel_rfl) (fun _ _ _ h => h) (Or.inr ⟨by kernel_rfl, rfl⟩) ?_
                        refine wpAny_take (i := 27) (v := undef) rfl (by kernel_rfl) (by kernel_rfl) (by kernel_rfl) (fun _ _ _ h => h) (Or.inr ⟨by kernel_rfl, rfl⟩) ?_
                        refine wpAny_take (i := 28) (v := undef) rfl (by kernel_rfl) (by kernel_rfl) (by kernel_rfl) (fun _ _ _ h => h) (Or.inr ⟨by kernel_rfl, rfl⟩) ?_
                        refine wpAny_take (i := 29) (v := undef) rfl (by kernel_rfl) (by kernel_rfl) (by kernel_rfl) (fun _ _ _ h => h) (Or.inr ⟨by kernel_rfl, rfl⟩) ?_
                        refine wpAny_take (i := 30) (v := undef) rfl (by kernel_rfl) (by kernel_rfl) (by kernel_rfl) (fun _ _ _ h => h) (Or.inr ⟨by kernel_rfl, rfl⟩) ?_
                        refine wpAny_take (i := 31) (v := undef) rfl (by kernel_rfl) (by kernel_rfl) (by kernel_rfl) (fun _ _ _ h => h) (Or.inr ⟨by kernel_rfl, rfl⟩) ?_
                        refine wpAny_take (i := 32) (v := undef) rfl (by kernel_rfl) (by kernel_rfl) (by kernel_rfl) (fun _ _ _ h => h) (Or.inr ⟨by kernel_rfl, rfl⟩) ?_
                        refine wpAny_take (i := 33) (v := undef) rfl (by kernel_rfl) (by kernel_rfl) (by kernel_rfl) (fun _ _ _ h => h) (Or.inr ⟨by kernel_rfl, rfl⟩) ?_
                        refine wpAny_take (i := 34) (v := undef) rfl (by kernel_rfl) (by kernel_rfl) (by kernel_rfl) (fun _ _ _ h => h) (Or.inr ⟨by kernel_rfl, rfl⟩) ?_
                        refine wpAny_take (i := 35) (v := undef) rfl (by kernel_rfl) (by kernel_rfl) (by kernel_rfl) (fun _ _ _ h => h) (Or.inr ⟨by kernel_rfl, rfl⟩) ?_
                        refine wpAny_take (i := 36) (v := undef) rfl (by kernel_rfl) (by kernel_rfl) (by kernel_rfl) (fun _ _ _ h => h) (Or.inr ⟨by kernel_rfl, rfl⟩) ?_
                        refine wpAny_take (i := 37) (v := undef) rfl (by kernel_rfl) (by kernel_rfl) (by kernel_rfl) (fun _ _ _ h => h) (Or.inr ⟨by kernel_rfl, rfl⟩) ?_
                        refine wpAny_take (i := 38) (v := undef) rfl (by kernel_rfl) (by kernel_rfl) (by kernel_rfl) (fun _ _ _ h => h) (Or.inr ⟨by kernel_rfl, rfl⟩) ?_
                        refine wpAny_take (i := 39) (v := .bool true) rfl (by kernel_rfl) (by kernel_rfl) (by kernel_rfl) (fun _ _ _ h => h) (Or.inl ⟨by kernel_rfl, fun W => by go_simp⟩) ?_
                        refine wpAny_take (i := 40) (v := .bool true) rfl (by kernel_rfl) (by kernel_rfl) (by kernel_rfl) (fun _ _ _ h => h) (Or.inl ⟨by kernel_rfl, fun W => by go_simp⟩) ?_
                        refine wpAny_done (by kernel_rfl) ?_ _
                        simp only [onlyN]
                        go_simp
                        exact hK' _ ⟨own_drew (own_refl _), htq.on (own_drew (own_refl _))⟩
                  · intro wX ⟨hbX, htX⟩
                    have hbelX := below_own hbelq hbX
                    go_wp2
                    refine bodyPost_ret (v := .tuple #[.int .i64 2, .int .i64 k]) (by simp [results, Try.results9, go_sem]) rfl ⟨by rw [check_pair (c := 2) HX.out HM.out HZ.out hlt2 HR.out (by unfold pairF; rw [HU1.out, HC.out, HS.out] <;> rfl) (by decide)], hbelX⟩
          · have HU1 := Lib.hid hu1
            clear hu1
            cases hu2 : z.t.has
            · have HU2 := Lib.hid hu2
              clear hu2
              go_wp2_with fail
              apply region_cut (fun W' => Below wq.heap.size wq W' ∧ BoxT W' gT x)
              · intro hK'
                refine region_plain (N := 19) rfl (by kernel_rfl) ?_
                refine wpAny_ready (rs := [0]) (by kernel_rfl) (by simp) (AllReady.cons rfl (fun K hK => ?_) AllReady.nil)
                go_simp
                refine hK _ _ ?_
                clear hK K
                refine wpAny_ready (rs := [1]) (by kernel_rfl) (by simp) (AllReady.cons rfl (fun K hK => ?_) AllReady.nil)
                go_simp
                refine (hhas_any x _).mono ?_
                rintro e w1 ⟨rfl, hb1⟩
                rw [HU1.out]
                have ho1 : Below wq.heap.size wq w1 := below_own (own_drew (own_refl _)) hb1
                have t0_1 := cell_on ho1 t0
                have t1_1 := cell_on ho1 t1
                have t2_1 := cell_on ho1 t2
                have t3_1 := cell_on ho1 t3
                have t4_1 := cell_on ho1 t4
                have t5_1 := cell_on ho1 t5
                have t6_1 := cell_on ho1 t6
                have t7_1 := cell_on ho1 t7
                have z0_1 := cell_on ho1 z0
                have z1_1 := cell_on ho1 z1
                have z2_1 := cell_on ho1 z2
                have z3_1 := cell_on ho1 z3
                have z4_1 := cell_on ho1 z4
                have z5_1 := cell_on ho1 z5
                have z6_1 := cell_on ho1 z6
                have z7_1 := cell_on ho1 z7
                refine hK _ _ ?_
                clear hK K
                refine wpAny_take (i := 2) (v := .bool true) rfl (by kernel_rfl) (by kernel_rfl) (by kernel_rfl) (fun _ _ _ h => h) (Or.inl ⟨by kernel_rfl, fun W => by go_simp⟩) ?_
                refine wpAny_take (i := 3) (v := .slice (some ⟨b, off, none⟩) n c) rfl (by kernel_rfl) (by kernel_rfl) (by kernel_rfl) (fun _ _ _ h => h) (Or.inl ⟨by kernel_rfl, fun W => by go_simp⟩) ?_
                refine wpAny_take (i := 4) (v := .int .i64 m) rfl (by kernel_rfl) (by kernel_rfl) (by kernel_rfl) (fun _ _ _ h => h) (Or.inl ⟨by kernel_rfl, fun W => by go_simp⟩) ?_
                refine wpAny_take (i := 5) (v := .pointer (some ⟨b, off + m * 8, none⟩)) rfl (by kernel_rfl) (by kernel_rfl) (by kernel_rfl) (fun _ _ _ h => h) (Or.inl ⟨by kernel_rfl, fun W => by go_simp⟩) ?_
                refine wpAny_ready (rs := [6]) (by kernel_rfl) (by simp) (AllReady.cons rfl (fun K hK => ?_) AllReady.nil)
                go_simp
                refine hK _ _ ?_
                clear hK K
                refine wpAny_ready (rs := [7]) (by kernel_rfl) (by simp) (AllReady.cons rfl (fun K hK => ?_) AllReady.nil)
                go_simp
                refine (hhas_any z _).mono ?_
                rintro e w2 ⟨rfl, hb2⟩
                rw [HU2.out]
                have ho2 : Below wq.heap.size wq w2 := below_own (ho1) hb2
                have t0_2 := cell_on ho2 t0
                have t1_2 := cell_on ho2 t1
                have t2_2 := cell_on ho2 t2
                have t3_2 := cell_on ho2 t3
                have t4_2 := cell_on ho2 t4
                have t5_2 := cell_on ho2 t5
                have t6_2 := cell_on ho2 t6
                have t7_2 := cell_on ho2 t7
                have z0_2 := cell_on ho2 z0
                have z1_2 := cell_on ho2 z1
                have z2_2 := cell_on ho2 z2
                have z3_2 := cell_on ho2 z3
                have z4_2 := cell_on ho2 z4
                have z5_2 := cell_on ho2 z5
                have z6_2 := cell_on ho2 z6
                have z7_2 := cell_on ho2 z7
                refine hK _ _ ?_
                clear hK K
                refine wpAny_take (i := 8) (v := .bool false) rfl (by kernel_rfl) (by kernel_rfl) (by kernel_rfl) (fun _ _ _ h => h) (Or.inl ⟨by kernel_rfl, fun W => by go_simp⟩) ?_
                refine wpAny_take (i := 9) (v := .bool false) rfl (by kernel_rfl) (by kernel_rfl) (by kernel_rfl) (fun _ _ _ h => h) (Or.inl ⟨by kernel_rfl, fun W => by go_simp⟩) ?_
                refine wpAny_take (i := 10) (v := undef) rfl (by kernel_rfl) (by kernel_rfl) (by kernel_rfl) (fun _ _ _ h => h) (Or.inr ⟨by kernel_rfl, rfl⟩) ?_
                refine wpAny_take (i := 11) (v := undef) rfl (by kernel_rfl) (by kernel_rfl) (by kernel_rfl) (fun _ _ _ h => h) (Or.inr ⟨by kernel_rfl, rfl⟩) ?_
                refine wpAny_take (i := 12) (v := undef) rfl (by kernel_rfl) (by kernel_rfl) (by kernel_rfl) (fun _ _ _ h => h) (Or.inr ⟨by kernel_rfl, rfl⟩) ?_
                refine wpAny_take (i := 13) (v := undef) rfl (by kernel_rfl) (by kernel_rfl) (by kernel_rfl) (fun _ _ _ h => h) (Or.inr ⟨by kernel_rfl, rfl⟩) ?_
                refine wpAny_take (i := 14) (v := undef) rfl (by kernel_rfl) (by kernel_rfl) (by kernel_rfl) (fun _ _ _ h => h) (Or.inr ⟨by kernel_rfl, rfl⟩) ?_
                refine wpAny_take (i := 15) (v := undef) rfl (by kernel_rfl) (by kernel_rfl) (by kernel_rfl) (fun _ _ _ h => h) (Or.inr ⟨by kernel_rfl, rfl⟩) ?_
                refine wpAny_take (i := 16) (v := undef) rfl (by kernel_rfl) (by kernel_rfl) (by kernel_rfl) (fun _ _ _ h => h) (Or.inr ⟨by kernel_rfl, rfl⟩) ?_
                refine wpAny_take (i := 17) (v := undef) rfl (by kernel_rfl) (by kernel_rfl) (by kernel_rfl) (fun _ _ _ h => h) (Or.inr ⟨by kernel_rfl, rfl⟩) ?_
                refine wpAny_take (i := 18) (v := .bool false) rfl (by kernel_rfl) (by kernel_rfl) (by kernel_rfl) (fun _ _ _ h => h) (Or.inl ⟨by kernel_rfl, fun W => by go_simp⟩) ?_
                refine wpAny_done (by kernel_rfl) ?_ _
                simp only [onlyN]
                go_simp
                exact hK' _ ⟨ho2, htq.on (ho2)⟩
              · intro wX ⟨hbX, htX⟩
                have hbelX := below_own hbelq hbX
                clear hbX hbelq htq t0 t1 t2 t3 t4 t5 t6 t7 z0 z1 z2 z3 z4 z5 z6 z7
                go_wp2_with fail
                clear wq
                obtain ⟨wq, rfl⟩ : ∃ w0, w0 = wX := ⟨_, rfl⟩
                have hbelq := hbelX
                have htq := htX
                clear hbelX htX
                obtain ⟨⟨t0, t1, t2, t3, t4, t5, t6, t7⟩, -, -⟩ := id htq
                obtain ⟨z0, z1, z2, z3, z4, z5, z6, z7⟩ := HZC.out wq hbelq
                cases hcl : (z.t.cl == x.t.cl)
                · have HC := Lib.hid hcl
                  go_wp2_with fail
                  apply region_cut (fun W' => Below wq.heap.size wq W' ∧ BoxT W' gT x)
                  · intro hK'
                    refine region_plain (N := 41) rfl (by kernel_rfl) ?_
                    refine wpAny_take (i := 0) (v := .slice (some ⟨b, off, none⟩) n c) rfl (by kernel_rfl) (by kernel_rfl) (by kernel_rfl) (fun _ _ _ h => h) (Or.inl ⟨by kernel_rfl, fun W => by go_simp⟩) ?_
                    refine wpAny_take (i := 1) (v := .int .i64 m) rfl (by kernel_rfl) (by kernel_rfl) (by kernel_rfl) (fun _ _ _ h => h) (Or.inl ⟨by kernel_rfl, fun W => by go_simp⟩) ?_
                    refine wpAny_take (i := 2) (v := .pointer (some ⟨b, off + m * 8, none⟩)) rfl (by kernel_rfl) (by kernel_rfl) (by kernel_rfl) (fun _ _ _ h => h) (Or.inl ⟨by kernel_rfl, fun W => by go_simp⟩) ?_
                    refine wpAny_take (i := 3) (v := .pointer (some ⟨b, off + m * 8, none⟩)) rfl (by kernel_rfl) (by kernel_rfl) (by kernel_rfl) (fun _ _ _ h => h) (Or.inl ⟨by kernel_rfl, fun W => by go_simp⟩) ?_
                    refine wpAny_take (i := 5) (v := .pointer (some ⟨gT, 0, none⟩)) rfl (by kernel_rfl) (by kernel_rfl) (by kernel_rfl) (fun _ _ _ h => h) (Or.inl ⟨by kernel_rfl, fun W => by go_simp⟩) ?_
                    apply cut2
                    · intro hS
                      refine wpAny_ready (rs := [4, 6]) (by kernel_rfl) (by simp) (AllReady.cons rfl (fun K hK => ?_) (AllReady.cons rfl (fun K hK => ?_) AllReady.nil))
                      · go_simp
                        refine hK _ _ ?_
                        clear hK K
                        refine wpAny_ready (rs := [6]) (by kernel_rfl) (by simp) (AllReady.cons rfl (fun K hK => ?_) AllReady.nil)
                        go_simp
                        refine hK _ _ ?_
                        clear hK K
                        exact hS
                      · go_simp
                        refine hK _ _ ?_
                        clear hK K
                        refine wpAny_ready (rs := [4]) (by kernel_rfl) (by simp) (AllReady.cons rfl (fun K hK => ?_) AllReady.nil)
                        go_simp
                        refine hK _ _ ?_
                        clear hK K
                        exact wpAny_swap hS (by kernel_rfl)
                    · refine wpAny_take (i := 7) (v := .bool false) rfl (by kernel_rfl) (by kernel_rfl) (by kernel_rfl) (fun _ _ _ h => h) (Or.inl ⟨by kernel_rfl, fun W => by go_simp⟩) ?_
                      refine wpAny_take (i := 8) (v := .bool false) rfl (by kernel_rfl) (by kernel_rfl) (by kernel_rfl) (fun _ _ _ h => h) (Or.inl ⟨by kernel_rfl, fun W => by go_simp⟩) ?_
                      refine wpAny_take (i := 9) (v := undef) rfl (by kernel_rfl) (by kernel_rfl) (by kernel_rfl) (fun _ _ _ h => h) (Or.inr ⟨by kernel_rfl, rfl⟩) ?_
                      refine wpAny_take (i := 10) (v := undef) rfl (by kernel_rfl) (by kernel_rfl) (by kernel_rfl) (fun _ _ _ h => h) (Or.inr ⟨by kernel_rfl, rfl⟩) ?_
                      refine wpAny_take (i := 11) (v := undef) rfl (by kernel_rfl) (by kernel_rfl) (by kernel_rfl) (fun _ _ _ h => h) (Or.inr ⟨by kernel_rfl, rfl⟩) ?_
                      refine wpAny_take (i := 12) (v := undef) rfl (by kernel_rfl) (by kernel_rfl) (by kernel_rfl) (fun _ _ _ h => h) (Or.inr ⟨by kernel_rfl, rfl⟩) ?_
                      refine wpAny_take (i := 13) (v := undef) rfl (by kernel_rfl) (by kernel_rfl) (by kernel_rfl) (fun _ _ _ h => h) (Or.inr ⟨by kernel_rfl, rfl⟩) ?_
                      refine wpAny_take (i := 14) (v := undef) rfl (by kernel_rfl) (by kernel_rfl) (by kernel_rfl) (fun _ _ _ h => h) (Or.inr ⟨by kernel_rfl, rfl⟩) ?_
                      refine wpAny_take (i := 15) (v := undef) rfl (by kernel_rfl) (by kernel_rfl) (by kernel_rfl) (fun _ _ _ h => h) (Or.inr ⟨by kernel_rfl, rfl⟩) ?_
                      refine wpAny_take (i := 16) (v := undef) rfl (by kernel_rfl) (by kernel_rfl) (by kernel_rfl) (fun _ _ _ h => h) (Or.inr ⟨by kernel_rfl, rfl⟩) ?_
                      refine wpAny_take (i := 17) (v := undef) rfl (by kernel_rfl) (by kernel_rfl) (by kernel_rfl) (fun _ _ _ h => h) (Or.inr ⟨by kernel_rfl, rfl⟩) ?_
                      refine wpAny_take (i := 18) (v := undef) rfl (by kernel_rfl) (by kernel_rfl) (by kernel_rfl) (fun _ _ _ h => h) (Or.inr ⟨by kernel_rfl, rfl⟩) ?_
                      refine wpAny_take (i := 19) (v := undef) rfl (by kernel_rfl) (by kernel_rfl) (by kernel_rfl) (fun _ _ _ h => h) (Or.inr ⟨by kernel_rfl, rfl⟩) ?_
                      refine wpAny_take (i := 20) (v := undef) rfl (by kernel_rfl) (by kernel_rfl) (by kernel_rfl) (fun _ _ _ h => h) (Or.inr ⟨by kernel_rfl, rfl⟩) ?_
                      refine wpAny_take (i := 21) (v := undef) rfl (by kernel_rfl) (by kernel_rfl) (by kernel_rfl) (fun _ _ _ h => h) (Or.inr ⟨by kernel_rfl, rfl⟩) ?_
                      refine wpAny_take (i := 22) (v := undef) rfl (by kernel_rfl) (by kernel_rfl) (by kernel_rfl) (fun _ _ _ h => h) (Or.inr ⟨by kernel_rfl, rfl⟩) ?_
                      refine wpAny_take (i := 23) (v := undef) rfl (by kernel_rfl) (by kernel_rfl) (by kernel_rfl) (fun _ _ _ h => h) (Or.inr ⟨by kernel_rfl, rfl⟩) ?_
                      refine wpAny_take (i := 24) (v := undef) rfl (by kernel_rfl) (by kernel_rfl) (by kernel_rfl) (fun _ _ _ h => h) (Or.inr ⟨by kernel_rfl, rfl⟩) ?_
                      refine wpAny_take (i := 25) (v := undef) rfl (by kernel_rfl) (by kernel_rfl) (by kernel_rfl) (fun _ _ _ h => h) (Or.inr ⟨by kernel_rfl, rfl⟩) ?_
                      refine wpAny_take (i := 26) (v := undef) rfl (by kernel_rfl) (by kernel_rfl) (by kernel_rfl) (fun _ _ _ h => h) (Or.inr ⟨by kernel_rfl, rfl⟩) ?_
                      refine wpAny_take (i := 27) (v := undef) rfl (by kernel_rfl) (by kernel_rfl) (by kernel_rfl) (fun _ _ _ h => h) (Or.inr ⟨by kernel_rfl, rfl⟩) ?_
                      refine wpAny_take (i := 28) (v := undef) rfl (by kernel_rfl) (by kernel_rfl) (by kernel_rfl) (fun _ _ _ h => h) (Or.inr ⟨by kernel_rfl, rfl⟩) ?_
                      refine wpAny_take (i := 29) (v := undef) rfl (by kernel_rfl) (by kernel_rfl) (by kernel_rfl) (fun _ _ _ h => h) (Or.inr ⟨by kernel_rfl, rfl⟩) ?_
                      refine wpAny_take (i := 30) (v := undef) rfl (by kernel_rfl) (by kernel_rfl) (by kernel_rfl) (fun _ _ _ h => h) (Or.inr ⟨by kernel_rfl, rfl⟩) ?_
                      refine wpAny_take (i := 31) (v := undef) rfl (by kernel_rfl) (by kernel_rfl) (by kernel_rfl) (fun _ _ _ h => h) (Or.inr ⟨by kernel_rfl, rfl⟩) ?_
                      refine wpAny_take (i := 32) (v := undef) rfl (by kernel_rfl) (by kernel_rfl) (by kernel_rfl) (fun _ _ _ h => h) (Or.inr ⟨by kernel_rfl, rfl⟩) ?_
                      refine wpAny_take (i := 33) (v := undef) rfl (by kernel_rfl) (by kernel_rfl) (by kernel_rfl) (fun _ _ _ h => h) (Or.inr ⟨by kernel_rfl, rfl⟩) ?_
                      refine wpAny_take (i := 34) (v := undef) rfl (by kernel_rfl) (by kernel_rfl) (by kernel_rfl) (fun _ _ _ h => h) (Or.inr ⟨by kernel_rfl, rfl⟩) ?_
                      refine wpAny_take (i := 35) (v := undef) rfl (by kernel_rfl) (by kernel_rfl) (by kernel_rfl) (fun _ _ _ h => h) (Or.inr ⟨by kernel_rfl, rfl⟩) ?_
                      refine wpAny_take (i := 36) (v := undef) rfl (by kernel_rfl) (by kernel_rfl) (by kernel_rfl) (fun _ _ _ h => h) (Or.inr ⟨by kernel_rfl, rfl⟩) ?_
                      refine wpAny_take (i := 37) (v := undef) rfl (by kernel_rfl) (by kernel_rfl) (by kernel_rfl) (fun _ _ _ h => h) (Or.inr ⟨by kernel_rfl, rfl⟩) ?_
                      refine wpAny_take (i := 38) (v := undef) rfl (by kernel_rfl) (by kernel_rfl) (by kernel_rfl) (fun _ _ _ h => h) (Or.inr ⟨by kernel_rfl, rfl⟩) ?_
                      refine wpAny_take (i := 39) (v := undef) rfl (by kernel_rfl) (by kernel_rfl) (by kernel_rfl) (fun _ _ _ h => h) (Or.inr ⟨by kernel_rfl, rfl⟩) ?_
                      refine wpAny_take (i := 40) (v := .bool false) rfl (by kernel_rfl) (by kernel_rfl) (by kernel_rfl) (fun _ _ _ h => h) (Or.inl ⟨by kernel_rfl, fun W => by go_simp⟩) ?_
                      refine wpAny_done (by kernel_rfl) ?_ _
                      simp only [onlyN]
                      go_simp
                      exact hK' _ ⟨own_drew (own_refl _), htq.on (own_drew (own_refl _))⟩
                  · intro wX ⟨hbX, htX⟩
                    have hbelX := below_own hbelq hbX
                    have hst := Lib.hid ((rowF_step HZ.out HR.out).trans (by unfold pairF; rw [HU1.out, HU2.out, HC.out] <;> rfl))
                    go_wp2
                    go_roundw
                    case rel => exact ⟨m + 1, by omega, by go_num, hst.out, hbelX, htX⟩
                    case measure => simp [intOf]; omega
                · have HC := Lib.hid hcl
                  cases hsn : decide (x.t.sn < z.t.sn)
                  · have HS := Lib.hid hsn
                    go_wp2_with fail
                    apply region_cut (fun W' => Below wq.heap.size wq W' ∧ BoxT W' gT x)
                    · intro hK'
                      refine region_plain (N := 41) rfl (by kernel_rfl) ?_
                      refine wpAny_take (i := 0) (v := .slice (some ⟨b, off, none⟩) n c) rfl (by kernel_rfl) (by kernel_rfl) (by kernel_rfl) (fun _ _ _ h => h) (Or.inl ⟨by kernel_rfl, fun W => by go_simp⟩) ?_
                      refine wpAny_take (i := 1) (v := .int .i64 m) rfl (by kernel_rfl) (by kernel_rfl) (by kernel_rfl) (fun _ _ _ h => h) (Or.inl ⟨by kernel_rfl, fun W => by go_simp⟩) ?_
                      refine wpAny_take (i := 2) (v := .pointer (some ⟨b, off + m * 8, none⟩)) rfl (by kernel_rfl) (by kernel_rfl) (by kernel_rfl) (fun _ _ _ h => h) (Or.inl ⟨by kernel_rfl, fun W => by go_simp⟩) ?_
                      refine wpAny_take (i := 3) (v := .pointer (some ⟨b, off + m * 8, none⟩)) rfl (by kernel_rfl) (by kernel_rfl) (by kernel_rfl) (fun _ _ _ h => h) (Or.inl ⟨by kernel_rfl, fun W => by go_simp⟩) ?_
                      refine wpAny_take (i := 5) (v := .pointer (some ⟨gT, 0, none⟩)) rfl (by kernel_rfl) (by kernel_rfl) (by kernel_rfl) (fun _ _ _ h => h) (Or.inl ⟨by kernel_rfl, fun W => by go_simp⟩) ?_
                      apply cut2
                      · intro hS
                        refine wpAny_ready (rs := [4, 6]) (by kernel_rfl) (by simp) (AllReady.cons rfl (fun K hK => ?_) (AllReady.cons rfl (fun K hK => ?_) AllReady.nil))
                        · go_simp
                          refine hK _ _ ?_
                          clear hK K
                          refine wpAny_ready (rs := [6]) (by kernel_rfl) (by simp) (AllReady.cons rfl (fun K hK => ?_) AllReady.nil)
                          go_simp
                          refine hK _ _ ?_
                          clear hK K
                          exact hS
                        · go_simp
                          refine hK _ _ ?_
                          clear hK K
                          refine wpAny_ready (rs := [4]) (by kernel_rfl) (by simp) (AllReady.cons rfl (fun K hK => ?_) AllReady.nil)
                          go_simp
                          refine hK _ _ ?_
                          clear hK K
                          exact wpAny_swap hS (by kernel_rfl)
                      · refine wpAny_take (i := 7) (v := .bool true) rfl (by kernel_rfl) (by kernel_rfl) (by kernel_rfl) (fun _ _ _ h => h) (Or.inl ⟨by kernel_rfl, fun W => by go_simp⟩) ?_
                        refine wpAny_take (i := 8) (v := .bool true) rfl (by kernel_rfl) (by kernel_rfl) (by kernel_rfl) (fun _ _ _ h => h) (Or.inl ⟨by kernel_rfl, fun W => by go_simp⟩) ?_
                        refine wpAny_take (i := 9) (v := .slice (some ⟨b, off, none⟩) n c) rfl (by kernel_rfl) (by kernel_rfl) (by kernel_rfl) (fun _ _ _ h => h) (Or.inl ⟨by kernel_rfl, fun W => by go_simp⟩) ?_
                        refine wpAny_take (i := 10) (v := .int .i64 m) rfl (by kernel_rfl) (by kernel_rfl) (by kernel_rfl) (fun _ _ _ h => h) (Or.inl ⟨by kernel_rfl, fun W => by go_simp⟩) ?_
                        refine wpAny_take (i := 11) (v := .pointer (some ⟨b, off + m * 8, none⟩)) rfl (by kernel_rfl) (by kernel_rfl) (by kernel_rfl) (fun _ _ _ h => h) (Or.inl ⟨by kernel_rfl, fun W => by go_simp⟩) ?_
                        refine wpAny_take (i := 12) (v := .pointer (some ⟨b, off + m * 8 + 1, none⟩)) rfl (by kernel_rfl) (by kernel_rfl) (by kernel_rfl) (fun _ _ _ h => h) (Or.inl ⟨by kernel_rfl, fun W => by go_simp⟩) ?_
                        refine wpAny_take (i := 14) (v := .pointer (some ⟨gT, 1, none⟩)) rfl (by kernel_rfl) (by kernel_rfl) (by kernel_rfl) (fun _ _ _ h => h) (Or.inl ⟨by kernel_rfl, fun W => by go_simp⟩) ?_
                        apply cut2
                        · intro hS
                          refine wpAny_ready (rs := [13, 15]) (by kernel_rfl) (by simp) (AllReady.cons rfl (fun K hK => ?_) (AllReady.cons rfl (fun K hK => ?_) AllReady.nil))
                          · go_simp
                            refine hK _ _ ?_
                            clear hK K
                            refine wpAny_ready (rs := [15]) (by kernel_rfl) (by simp) (AllReady.cons rfl (fun K hK => ?_) AllReady.nil)
                            go_simp
                            refine hK _ _ ?_
                            clear hK K
                            exact hS
                          · go_simp
                            refine hK _ _ ?_
                            clear hK K
                            refine wpAny_ready (rs := [13]) (by kernel_rfl) (by simp) (AllReady.cons rfl (fun K hK => ?_) AllReady.nil)
                            go_simp
                            refine hK _ _ ?_
                            clear hK K
                            exact wpAny_swap hS (by kernel_rfl)
                        · refine wpAny_take (i := 16) (v := .bool false) rfl (by kernel_rfl) (by kernel_rfl) (by kernel_rfl) (fun _ _ _ h => h) (Or.inl ⟨by kernel_rfl, fun W => by go_simp⟩) ?_
                          refine wpAny_take (i := 17) (v := .bool false) rfl (by kernel_rfl) (by kernel_rfl) (by kernel_rfl) (fun _ _ _ h => h) (Or.inl ⟨by kernel_rfl, fun W => by go_simp⟩) ?_
                          refine wpAny_ready (rs := [18]) (by kernel_rfl) (by simp) (AllReady.cons rfl (fun K hK => ?_) AllReady.nil)
                          go_simp
                          refine hK _ _ ?_
                          clear hK K
                          refine wpAny_ready (rs := [19]) (by kernel_rfl) (by simp) (AllReady.cons rfl (fun K hK => ?_) AllReady.nil)
                          go_simp
                          refine (hhas_any x _).mono ?_
                          rintro e w1 ⟨rfl, hb1⟩
                          rw [HU1.out]
                          have ho1 : Below wq.heap.size wq w1 := below_own (own_drew (own_refl _)) hb1
                          have t0_1 := cell_on ho1 t0
                          have t1_1 := cell_on ho1 t1
                          have t2_1 := cell_on ho1 t2
                          have t3_1 := cell_on ho1 t3
                          have t4_1 := cell_on ho1 t4
                          have t5_1 := cell_on ho1 t5
                          have t6_1 := cell_on ho1 t6
                          have t7_1 := cell_on ho1 t7
                          have z0_1 := cell_on ho1 z0
                          have z1_1 := cell_on ho1 z1
                          have z2_1 := cell_on ho1 z2
                          have z3_1 := cell_on ho1 z3
                          have z4_1 := cell_on ho1 z4
                          have z5_1 := cell_on ho1 z5
                          have z6_1 := cell_on ho1 z6
                          have z7_1 := cell_on ho1 z7
                          refine hK _ _ ?_
                          clear hK K
                          refine wpAny_take (i := 20) (v := .bool true) rfl (by kernel_rfl) (by kernel_rfl) (by kernel_rfl) (fun _ _ _ h => h) (Or.inl ⟨by kernel_rfl, fun W => by go_simp⟩) ?_
                          refine wpAny_take (i := 21) (v := .slice (some ⟨b, off, none⟩) n c) rfl (by kernel_rfl) (by kernel_rfl) (by kernel_rfl) (fun _ _ _ h => h) (Or.inl ⟨by kernel_rfl, fun W => by go_simp⟩) ?_
                          refine wpAny_take (i := 22) (v := .int .i64 m) rfl (by kernel_rfl) (by kernel_rfl) (by kernel_rfl) (fun _ _ _ h => h) (Or.inl ⟨by kernel_rfl, fun W => by go_simp⟩) ?_
                          refine wpAny_take (i := 23) (v := .pointer (some ⟨b, off + m * 8, none⟩)) rfl (by kernel_rfl) (by kernel_rfl) (by kernel_rfl) (fun _ _ _ h => h) (Or.inl ⟨by kernel_rfl, fun W => by go_simp⟩) ?_
                          refine wpAny_ready (rs := [24]) (by kernel_rfl) (by simp) (AllReady.cons rfl (fun K hK => ?_) AllReady.nil)
                          go_simp
                          refine hK _ _ ?_
                          clear hK K
                          refine wpAny_ready (rs := [25]) (by kernel_rfl) (by simp) (AllReady.cons rfl (fun K hK => ?_) AllReady.nil)
                          go_simp
                          refine (hhas_any z _).mono ?_
                          rintro e w2 ⟨rfl, hb2⟩
                          rw [HU2.out]
                          have ho2 : Below wq.heap.size wq w2 := below_own (ho1) hb2
                          have t0_2 := cell_on ho2 t0
                          have t1_2 := cell_on ho2 t1
                          have t2_2 := cell_on ho2 t2
                          have t3_2 := cell_on ho2 t3
                          have t4_2 := cell_on ho2 t4
                          have t5_2 := cell_on ho2 t5
                          have t6_2 := cell_on ho2 t6
                          have t7_2 := cell_on ho2 t7
                          have z0_2 := cell_on ho2 z0
                          have z1_2 := cell_on ho2 z1
                          have z2_2 := cell_on ho2 z2
                          have z3_2 := cell_on ho2 z3
                          have z4_2 := cell_on ho2 z4
                          have z5_2 := cell_on ho2 z5
                          have z6_2 := cell_on ho2 z6
                          have z7_2 := cell_on ho2 z7
                          refine hK _ _ ?_
                          clear hK K
                          refine wpAny_take (i := 26) (v := .bool false) rfl (by kernel_rfl) (by kernel_rfl) (by kernel_rfl) (fun _ _ _ h => h) (Or.inl ⟨by kernel_rfl, fun W => by go_simp⟩) ?_
                          refine wpAny_take (i := 27) (v := .bool false) rfl (by kernel_rfl) (by kernel_rfl) (by kernel_rfl) (fun _ _ _ h => h) (Or.inl ⟨by kernel_rfl, fun W => by go_simp⟩) ?_
                          refine wpAny_take (i := 28) (v := undef) rfl (by kernel_rfl) (by kernel_rfl) (by kernel_rfl) (fun _ _ _ h => h) (Or.inr ⟨by kernel_rfl, rfl⟩) ?_
                          refine wpAny_take (i := 29) (v := undef) rfl (by kernel_rfl) (by kernel_rfl) (by kernel_rfl) (fun _ _ _ h => h) (Or.inr ⟨by kernel_rfl, rfl⟩) ?_
                          refine wpAny_take (i := 30) (v := undef) rfl (by kernel_rfl) (by kernel_rfl) (by kernel_rfl) (fun _ _ _ h => h) (Or.inr ⟨by kernel_rfl, rfl⟩) ?_
                          refine wpAny_take (i := 31) (v := undef) rfl (by kernel_rfl) (by kernel_rfl) (by kernel_rfl) (fun _ _ _ h => h) (Or.inr ⟨by kernel_rfl, rfl⟩) ?_
                          refine wpAny_take (i := 32) (v := undef) rfl (by kernel_rfl) (by kernel_rfl) (by kernel_rfl) (fun _ _ _ h => h) (Or.inr ⟨by kernel_rfl, rfl⟩) ?_
                          refine wpAny_take (i := 33) (v := undef) rfl (by kernel_rfl) (by kernel_rfl) (by kernel_rfl) (fun _ _ _ h => h) (Or.inr ⟨by kernel_rfl, rfl⟩) ?_
                          refine wpAny_take (i := 34) (v := undef) rfl (by kernel_rfl) (by kernel_rfl) (by kernel_rfl) (fun _ _ _ h => h) (Or.inr ⟨by kernel_rfl, rfl⟩) ?_
                          refine wpAny_take (i := 35) (v := undef) rfl (by kernel_rfl) (by kernel_rfl) (by kernel_rfl) (fun _ _ _ h => h) (Or.inr ⟨by kernel_rfl, rfl⟩) ?_
                          refine wpAny_take (i := 36) (v := undef) rfl (by kernel_rfl) (by kernel_rfl) (by kernel_rfl) (fun _ _ _ h => h) (Or.inr ⟨by kernel_rfl, rfl⟩) ?_
                          refine wpAny_take (i := 37) (v := undef) rfl (by kernel_rfl) (by kernel_rfl) (by kernel_rfl) (fun _ _ _ h => h) (Or.inr ⟨by kernel_rfl, rfl⟩) ?_
                          refine wpAny_take (i := 38) (v := .bool false) rfl (by kernel_rfl) (by kernel_rfl) (by kernel_rfl) (fun _ _ _ h => h) (Or.inl ⟨by kernel_rfl, fun W => by go_simp⟩) ?_
                          refine wpAny_take (i := 39) (v := .bool false) rfl (by kernel_rfl) (by kernel_rfl) (by kernel_rfl) (fun _ _ _ h => h) (Or.inl ⟨by kernel_rfl, fun W => by go_simp⟩) ?_
                          refine wpAny_take (i := 40) (v := .bool false) rfl (by kernel_rfl) (by kernel_rfl) (by kernel_rfl) (fun _ _ _ h => h) (Or.inl ⟨by kernel_rfl, fun W => by go_simp⟩) ?_
                          refine wpAny_done (by kernel_rfl) ?_ _
                          simp only [onlyN]
                          go_simp
                          exact hK' _ ⟨ho2, htq.on (ho2)⟩
                    · intro wX ⟨hbX, htX⟩
                      have hbelX := below_own hbelq hbX
                      have hst := Lib.hid ((rowF_step HZ.out HR.out).trans (by unfold pairF; rw [HU1.out, HU2.out, HC.out, HS.out] <;> rfl))
                      go_wp2
                      go_roundw
                      case rel => exact ⟨m + 1, by omega, by go_num, hst.out, hbelX, htX⟩
                      case measure => simp [intOf]; omega
                  · have HS := Lib.hid hsn
                    go_wp2_with fail
                    apply region_cut (fun W' => Below wq.heap.size wq W' ∧ BoxT W' gT x)
                    · intro hK'
                      refine region_plain (N := 41) rfl (by kernel_rfl) ?_
                      refine wpAny_take (i := 0) (v := .slice (some ⟨b, off, none⟩) n c) rfl (by kernel_rfl) (by kernel_rfl) (by kernel_rfl) (fun _ _ _ h => h) (Or.inl ⟨by kernel_rfl, fun W => by go_simp⟩) ?_
                      refine wpAny_take (i := 1) (v := .int .i64 m) rfl (by kernel_rfl) (by kernel_rfl) (by kernel_rfl) (fun _ _ _ h => h) (Or.inl ⟨by kernel_rfl, fun W => by go_simp⟩) ?_
                      refine wpAny_take (i := 2) (v := .pointer (some ⟨b, off + m * 8, none⟩)) rfl (by kernel_rfl) (by kernel_rfl) (by kernel_rfl) (fun _ _ _ h => h) (Or.inl ⟨by kernel_rfl, fun W => by go_simp⟩) ?_
                      refine wpAny_take (i := 3) (v := .pointer (some ⟨b, off + m * 8, none⟩)) rfl (by kernel_rfl) (by kernel_rfl) (by kernel_rfl) (fun _ _ _ h => h) (Or.inl ⟨by kernel_rfl, fun W => by go_simp⟩) ?_
                      refine wpAny_take (i := 5) (v := .pointer (some ⟨gT, 0, none⟩)) rfl (by kernel_rfl) (by kernel_rfl) (by kernel_rfl) (fun _ _ _ h => h) (Or.inl ⟨by kernel_rfl, fun W => by go_simp⟩) ?_
                      apply cut2
                      · intro hS
                        refine wpAny_ready (rs := [4, 6]) (by kernel_rfl) (by simp) (AllReady.cons rfl (fun K hK => ?_) (AllReady.cons rfl (fun K hK => ?_) AllReady.nil))
                        · go_simp
                          refine hK _ _ ?_
                          clear hK K
                          refine wpAny_ready (rs := [6]) (by kernel_rfl) (by simp) (AllReady.cons rfl (fun K hK => ?_) AllReady.nil)
                          go_simp
                          refine hK _ _ ?_
                          clear hK K
                          exact hS
                        · go_simp
                          refine hK _ _ ?_
                          clear hK K
                          refine wpAny_ready (rs := [4]) (by kernel_rfl) (by simp) (AllReady.cons rfl (fun K hK => ?_) AllReady.nil)
                          go_simp
                          refine hK _ _ ?_
                          clear hK K
                          exact wpAny_swap hS (by kernel_rfl)
                      · refine wpAny_take (i := 7) (v := .bool true) rfl (by kernel_rfl) (by kernel_rfl) (by kernel_rfl) (fun _ _ _ h => h) (Or.inl ⟨by kernel_rfl, fun W => by go_simp⟩) ?_
                        refine wpAny_take (i := 8) (v := .bool true) rfl (by kernel_rfl) (by kernel_rfl) (by kernel_rfl) (fun _ _ _ h => h) (Or.inl ⟨by kernel_rfl, fun W => by go_simp⟩) ?_
                        refine wpAny_take (i := 9) (v := .slice (some ⟨b, off, none⟩) n c) rfl (by kernel_rfl) (by kernel_rfl) (by kernel_rfl) (fun _ _ _ h => h) (Or.inl ⟨by kernel_rfl, fun W => by go_simp⟩) ?_
                        refine wpAny_take (i := 10) (v := .int .i64 m) rfl (by kernel_rfl) (by kernel_rfl) (by kernel_rfl) (fun _ _ _ h => h) (Or.inl ⟨by kernel_rfl, fun W => by go_simp⟩) ?_
                        refine wpAny_take (i := 11) (v := .pointer (some ⟨b, off + m * 8, none⟩)) rfl (by kernel_rfl) (by kernel_rfl) (by kernel_rfl) (fun _ _ _ h => h) (Or.inl ⟨by kernel_rfl, fun W => by go_simp⟩) ?_
                        refine wpAny_take (i := 12) (v := .pointer (some ⟨b, off + m * 8 + 1, none⟩)) rfl (by kernel_rfl) (by kernel_rfl) (by kernel_rfl) (fun _ _ _ h => h) (Or.inl ⟨by kernel_rfl, fun W => by go_simp⟩) ?_
                        refine wpAny_take (i := 14) (v := .pointer (some ⟨gT, 1, none⟩)) rfl (by kernel_rfl) (by kernel_rfl) (by kernel_rfl) (fun _ _ _ h => h) (Or.inl ⟨by kernel_rfl, fun W => by go_simp⟩) ?_
                        apply cut2
                        · intro hS
                          refine wpAny_ready (rs := [13, 15]) (by kernel_rfl) (by simp) (AllReady.cons rfl (fun K hK => ?_) (AllReady.cons rfl (fun K hK => ?_) AllReady.nil))
                          · go_simp
                            refine hK _ _ ?_
                            clear hK K
                            refine wpAny_ready (rs := [15]) (by kernel_rfl) (by simp) (AllReady.cons rfl (fun K hK => ?_) AllReady.nil)
                            go_simp
                            refine hK _ _ ?_
                            clear hK K
                            exact hS
                          · go_simp
                            refine hK _ _ ?_
                            clear hK K
                            refine wpAny_ready (rs := [13]) (by kernel_rfl) (by simp) (AllReady.cons rfl (fun K hK => ?_) AllReady.nil)
                            go_simp
                            refine hK _ _ ?_
                            clear hK K
                            exact wpAny_swap hS (by kernel_rfl)
                        · refine wpAny_take (i := 16) (v := .bool true) rfl (by kernel_rfl) (by kernel_rfl) (by kernel_rfl) (fun _ _ _ h => h) (Or.inl ⟨by kernel_rfl, fun W => by go_simp⟩) ?_
                          refine wpAny_take (i := 17) (v := .bool true) rfl (by kernel_rfl) (by kernel_rfl) (by kernel_rfl) (fun _ _ _ h => h) (Or.inl ⟨by kernel_rfl, fun W => by go_simp⟩) ?_
                          refine wpAny_take (i := 18) (v := undef) rfl (by kernel_rfl) (by kernel_rfl) (by kernel_rfl) (fun _ _ _ h => h) (Or.inr ⟨by kernel_rfl, rfl⟩) ?_
                          refine wpAny_take (i := 19) (v := undef) rfl (by kernel_rfl) (by kernel_rfl) (by kernel_rfl) (fun _ _ _ h => h) (Or.inr ⟨by kernel_rfl, rfl⟩) ?_
                          refine wpAny_take (i := 20) (v := undef) rfl (by kernel_rfl) (by kernel_rfl) (by kernel_rfl) (fun _ _ _ h => h) (Or.inr ⟨by kernel_rfl, rfl⟩) ?_
                          refine wpAny_take (i := 21) (v := undef) rfl (by kernel_rfl) (by kernel_rfl) (by kernel_rfl) (fun _ _ _ h => h) (Or.inr ⟨by kernel_rfl, rfl⟩) ?_
                          refine wpAny_take (i := 22) (v := undef) rfl (by kernel_rfl) (by kernel_rfl) (by kernel_rfl) (fun _ _ _ h => h) (Or.inr ⟨by kernel_rfl, rfl⟩) ?_
                          refine wpAny_take (i := 23) (v := undef) rfl (by kernel_rfl) (by kernel_rfl) (by kernel_rfl) (fun _ _ _ h => h) (Or.inr ⟨by kernel_rfl, rfl⟩) ?_
                          refine wpAny_take (i := 24) (v := undef) rfl (by kernel_rfl) (by kernel_rfl) (by kernel_rfl) (fun _ _ _ h => h) (Or.inr ⟨by kernel_rfl, rfl⟩) ?_
                          refine wpAny_take (i := 25) (v := undef) rfl (by kernel_rfl) (by kernel_rfl) (by kernel_rfl) (fun _ _ _ h => h) (Or.inr ⟨by kernel_rfl, rfl⟩) ?_
                          refine wpAny_take (i := 26) (v := undef) rfl (by kernel_rfl) (by kernel_rfl) (by kernel_rfl) (fun _ _ _ h => h) (Or.inr ⟨by kernel_rfl, rfl⟩) ?_
                          refine wpAny_take (i := 27) (v := undef) rfl (by kernel_rfl) (by kernel_rfl) (by kernel_rfl) (fun _ _ _ h => h) (Or.inr ⟨by kernel_rfl, rfl⟩) ?_
                          refine wpAny_take (i := 28) (v := undef) rfl (by kernel_rfl) (by kernel_rfl) (by kernel_rfl) (fun _ _ _ h => h) (Or.inr ⟨by kernel_rfl, rfl⟩) ?_
                          refine wpAny_take (i := 29) (v := undef) rfl (by kernel_rfl) (by kernel_rfl) (by kernel_rfl) (fun _ _ _ h => h) (Or.inr ⟨by kernel_rfl, rfl⟩) ?_
                          refine wpAny_take (i := 30) (v := undef) rfl (by kernel_rfl) (by kernel_rfl) (by kernel_rfl) (fun _ _ _ h => h) (Or.inr ⟨by kernel_rfl, rfl⟩) ?_
                          refine wpAny_take (i := 31) (v := undef) rfl (by kernel_rfl) (by kernel_rfl) (by kernel_rfl) (fun _ _ _ h => h) (Or.inr ⟨by kernel_rfl, rfl⟩) ?_
                          refine wpAny_take (i := 32) (v := undef) rfl (by kernel_rfl) (by kernel_rfl) (by kernel_rfl) (fun _ _ _ h => h) (Or.inr ⟨by kernel_rfl, rfl⟩) ?_
                          refine wpAny_take (i := 33) (v := undef) rfl (by kernel_rfl) (by kernel_rfl) (by kernel_rfl) (fun _ _ _ h => h) (Or.inr ⟨by kernel_rfl, rfl⟩) ?_
                          refine wpAny_take (i := 34) (v := undef) rfl (by kernel_rfl) (by kernel_rfl) (by kernel_rfl) (fun _ _ _ h => h) (Or.inr ⟨by kernel_rfl, rfl⟩) ?_
                          refine wpAny_take (i := 35) (v := undef) rfl (by kernel_rfl) (by kernel_rfl) (by kernel_rfl) (fun _ _ _ h => h) (Or.inr ⟨by kernel_rfl, rfl⟩) ?_
                          refine wpAny_take (i := 36) (v := undef) rfl (by kernel_rfl) (by kernel_rfl) (by kernel_rfl) (fun _ _ _ h => h) (Or.inr ⟨by kernel_rfl, rfl⟩) ?_
                          refine wpAny_take (i := 37) (v := undef) rfl (by kernel_rfl) (by kernel_rfl) (by kernel_rfl) (fun _ _ _ h => h) (Or.inr ⟨by kernel_rfl, rfl⟩) ?_
                          refine wpAny_take (i := 38) (v := undef) rfl (by kernel_rfl) (by kernel_rfl) (by kernel_rfl) (fun _ _ _ h => h) (Or.inr ⟨by kernel_rfl, rfl⟩) ?_
                          refine wpAny_take (i := 39) (v := .bool true) rfl (by kernel_rfl) (by kernel_rfl) (by kernel_rfl) (fun _ _ _ h => h) (Or.inl ⟨by kernel_rfl, fun W => by go_simp⟩) ?_
                          refine wpAny_take (i := 40) (v := .bool true) rfl (by kernel_rfl) (by kernel_rfl) (by kernel_rfl) (fun _ _ _ h => h) (Or.inl ⟨by kernel_rfl, fun W => by go_simp⟩) ?_
                          refine wpAny_done (by kernel_rfl) ?_ _
                          simp only [onlyN]
                          go_simp
                          exact hK' _ ⟨own_drew (own_refl _), htq.on (own_drew (own_refl _))⟩
                    · intro wX ⟨hbX, htX⟩
                      have hbelX := below_own hbelq hbX
                      go_wp2
                      refine bodyPost_ret (v := .tuple #[.int .i64 2, .int .i64 k]) (by simp [results, Try.results9, go_sem]) rfl ⟨by rw [check_pair (c := 2) HX.out HM.out HZ.out hlt2 HR.out (by unfold pairF; rw [HU1.out, HU2.out, HC.out, HS.out] <;> rfl) (by decide)], hbelX⟩
            · have HU2 := Lib.hid hu2
              clear hu2
              cases hu3 : twin x.t z.t
              · have HU3 := Lib.hid hu3
                have hq := twin_run x.t z.t _ hu3
                clear hu3
                go_wp2_with fail
                apply region_cut (fun W' => Below wq.heap.size wq W' ∧ BoxT W' gT x)
                · intro hK'
                  refine region_plain (N := 19) rfl (by kernel_rfl) ?_
                  refine wpAny_ready (rs := [0]) (by kernel_rfl) (by simp) (AllReady.cons rfl (fun K hK => ?_) AllReady.nil)
                  go_simp
                  refine hK _ _ ?_
                  clear hK K
                  refine wpAny_ready (rs := [1]) (by kernel_rfl) (by simp) (AllReady.cons rfl (fun K hK => ?_) AllReady.nil)
                  go_simp
                  refine (hhas_any x _).mono ?_
                  rintro e w1 ⟨rfl, hb1⟩
                  rw [HU1.out]
                  have ho1 : Below wq.heap.size wq w1 := below_own (own_drew (own_refl _)) hb1
                  have t0_1 := cell_on ho1 t0
                  have t1_1 := cell_on ho1 t1
                  have t2_1 := cell_on ho1 t2
                  have t3_1 := cell_on ho1 t3
                  have t4_1 := cell_on ho1 t4
                  have t5_1 := cell_on ho1 t5
                  have t6_1 := cell_on ho1 t6
                  have t7_1 := cell_on ho1 t7
                  have z0_1 := cell_on ho1 z0
                  have z1_1 := cell_on ho1 z1
                  have z2_1 := cell_on ho1 z2
                  have z3_1 := cell_on ho1 z3
                  have z4_1 := cell_on ho1 z4
                  have z5_1 := cell_on ho1 z5
                  have z6_1 := cell_on ho1 z6
                  have z7_1 := cell_on ho1 z7
                  refine hK _ _ ?_
                  clear hK K
                  refine wpAny_take (i := 2) (v := .bool true) rfl (by kernel_rfl) (by kernel_rfl) (by kernel_rfl) (fun _ _ _ h => h) (Or.inl ⟨by kernel_rfl, fun W => by go_simp⟩) ?_
                  refine wpAny_take (i := 3) (v := .slice (some ⟨b, off, none⟩) n c) rfl (by kernel_rfl) (by kernel_rfl) (by kernel_rfl) (fun _ _ _ h => h) (Or.inl ⟨by kernel_rfl, fun W => by go_simp⟩) ?_
                  refine wpAny_take (i := 4) (v := .int .i64 m) rfl (by kernel_rfl) (by kernel_rfl) (by kernel_rfl) (fun _ _ _ h => h) (Or.inl ⟨by kernel_rfl, fun W => by go_simp⟩) ?_
                  refine wpAny_take (i := 5) (v := .pointer (some ⟨b, off + m * 8, none⟩)) rfl (by kernel_rfl) (by kernel_rfl) (by kernel_rfl) (fun _ _ _ h => h) (Or.inl ⟨by kernel_rfl, fun W => by go_simp⟩) ?_
                  refine wpAny_ready (rs := [6]) (by kernel_rfl) (by simp) (AllReady.cons rfl (fun K hK => ?_) AllReady.nil)
                  go_simp
                  refine hK _ _ ?_
                  clear hK K
                  refine wpAny_ready (rs := [7]) (by kernel_rfl) (by simp) (AllReady.cons rfl (fun K hK => ?_) AllReady.nil)
                  go_simp
                  refine (hhas_any z _).mono ?_
                  rintro e w2 ⟨rfl, hb2⟩
                  rw [HU2.out]
                  have ho2 : Below wq.heap.size wq w2 := below_own (ho1) hb2
                  have t0_2 := cell_on ho2 t0
                  have t1_2 := cell_on ho2 t1
                  have t2_2 := cell_on ho2 t2
                  have t3_2 := cell_on ho2 t3
                  have t4_2 := cell_on ho2 t4
                  have t5_2 := cell_on ho2 t5
                  have t6_2 := cell_on ho2 t6
                  have t7_2 := cell_on ho2 t7
                  have z0_2 := cell_on ho2 z0
                  have z1_2 := cell_on ho2 z1
                  have z2_2 := cell_on ho2 z2
                  have z3_2 := cell_on ho2 z3
                  have z4_2 := cell_on ho2 z4
                  have z5_2 := cell_on ho2 z5
                  have z6_2 := cell_on ho2 z6
                  have z7_2 := cell_on ho2 z7
                  refine hK _ _ ?_
                  clear hK K
                  refine wpAny_take (i := 8) (v := .bool true) rfl (by kernel_rfl) (by kernel_rfl) (by kernel_rfl) (fun _ _ _ h => h) (Or.inl ⟨by kernel_rfl, fun W => by go_simp⟩) ?_
                  refine wpAny_take (i := 9) (v := .bool true) rfl (by kernel_rfl) (by kernel_rfl) (by kernel_rfl) (fun _ _ _ h => h) (Or.inl ⟨by kernel_rfl, fun W => by go_simp⟩) ?_
                  refine wpAny_take (i := 10) (v := .pointer (some ⟨gT, 3, none⟩)) rfl (by kernel_rfl) (by kernel_rfl) (by kernel_rfl) (fun _ _ _ h => h) (Or.inl ⟨by kernel_rfl, fun W => by go_simp⟩) ?_
                  refine wpAny_take (i := 12) (v := .slice (some ⟨b, off, none⟩) n c) rfl (by kernel_rfl) (by kernel_rfl) (by kernel_rfl) (fun _ _ _ h => h) (Or.inl ⟨by kernel_rfl, fun W => by go_simp⟩) ?_
                  refine wpAny_take (i := 13) (v := .int .i64 m) rfl (by kernel_rfl) (by kernel_rfl) (by kernel_rfl) (fun _ _ _ h => h) (Or.inl ⟨by kernel_rfl, fun W => by go_simp⟩) ?_
                  refine wpAny_take (i := 14) (v := .pointer (some ⟨b, off + m * 8, none⟩)) rfl (by kernel_rfl) (by kernel_rfl) (by kernel_rfl) (fun _ _ _ h => h) (Or.inl ⟨by kernel_rfl, fun W => by go_simp⟩) ?_
                  refine wpAny_take (i := 15) (v := .pointer (some ⟨b, off + m * 8 + 3, none⟩)) rfl (by kernel_rfl) (by kernel_rfl) (by kernel_rfl) (fun _ _ _ h => h) (Or.inl ⟨by kernel_rfl, fun W => by go_simp⟩) ?_
                  refine wpAny_ready (rs := [11, 16]) (by kernel_rfl) (by simp) (AllReady.cons rfl (fun K hK => ?_) (AllReady.cons rfl (fun K hK => ?_) AllReady.nil))
                  · go_simp
                    refine hK _ _ ?_
                    clear hK K
                    refine wpAny_ready (rs := [16]) (by kernel_rfl) (by simp) (AllReady.cons rfl (fun K hK => ?_) AllReady.nil)
                    go_simp
                    refine hK _ _ ?_
                    clear hK K
                    refine wpAny_take (i := 17) (v := .bool false) rfl (by kernel_rfl) (by kernel_rfl) (by kernel_rfl) (fun _ _ _ h => h) (Or.inl ⟨by kernel_rfl, fun W => by go_simp⟩) ?_
                    refine wpAny_take (i := 18) (v := .bool false) rfl (by kernel_rfl) (by kernel_rfl) (by kernel_rfl) (fun _ _ _ h => h) (Or.inl ⟨by kernel_rfl, fun W => by go_simp⟩) ?_
                    refine wpAny_done (by kernel_rfl) ?_ _
                    simp only [onlyN]
                    go_simp
                    exact hK' _ ⟨ho2, htq.on (ho2)⟩
                  · go_simp
                    refine hK _ _ ?_
                    clear hK K
                    refine wpAny_ready (rs := [11]) (by kernel_rfl) (by simp) (AllReady.cons rfl (fun K hK => ?_) AllReady.nil)
                    go_simp
                    refine hK _ _ ?_
                    clear hK K
                    refine wpAny_take (i := 17) (v := .bool false) rfl (by kernel_rfl) (by kernel_rfl) (by kernel_rfl) (fun _ _ _ h => h) (Or.inl ⟨by kernel_rfl, fun W => by go_simp⟩) ?_
                    refine wpAny_take (i := 18) (v := .bool false) rfl (by kernel_rfl) (by kernel_rfl) (by kernel_rfl) (fun _ _ _ h => h) (Or.inl ⟨by kernel_rfl, fun W => by go_simp⟩) ?_
                    refine wpAny_done (by kernel_rfl) ?_ _
                    simp only [onlyN]
                    go_simp
                    exact hK' _ ⟨ho2, htq.on (ho2)⟩
                · intro wX ⟨hbX, htX⟩
                  have hbelX := below_own hbelq hbX
                  clear hbX hbelq htq t0 t1 t2 t3 t4 t5 t6 t7 z0 z1 z2 z3 z4 z5 z6 z7
                  go_wp2_with fail
                  clear wq
                  obtain ⟨wq, rfl⟩ : ∃ w0, w0 = wX := ⟨_, rfl⟩
                  have hbelq := hbelX
                  have htq := htX
                  clear hbelX htX
                  obtain ⟨⟨t0, t1, t2, t3, t4, t5, t6, t7⟩, -, -⟩ := id htq
                  obtain ⟨z0, z1, z2, z3, z4, z5, z6, z7⟩ := HZC.out wq hbelq
                  cases hcl : (z.t.cl == x.t.cl)
                  · have HC := Lib.hid hcl
                    go_wp2_with fail
                    apply region_cut (fun W' => Below wq.heap.size wq W' ∧ BoxT W' gT x)
                    · intro hK'
                      refine region_plain (N := 41) rfl (by kernel_rfl) ?_
                      refine wpAny_take (i := 0) (v := .slice (some ⟨b, off, none⟩) n c) rfl (by kernel_rfl) (by kernel_rfl) (by kernel_rfl) (fun _ _ _ h => h) (Or.inl ⟨by kernel_rfl, fun W => by go_simp⟩) ?_
                      refine wpAny_take (i := 1) (v := .int .i64 m) rfl (by kernel_rfl) (by kernel_rfl) (by kernel_rfl) (fun _ _ _ h => h) (Or.inl ⟨by kernel_rfl, fun W => by go_simp⟩) ?_
                      refine wpAny_take (i := 2) (v := .pointer (some ⟨b, off + m * 8, none⟩)) rfl (by kernel_rfl) (by kernel_rfl) (by kernel_rfl) (fun _ _ _ h => h) (Or.inl ⟨by kernel_rfl, fun W => by go_simp⟩) ?_
                      refine wpAny_take (i := 3) (v := .pointer (some ⟨b, off + m * 8, none⟩)) rfl (by kernel_rfl) (by kernel_rfl) (by kernel_rfl) (fun _ _ _ h => h) (Or.inl ⟨by kernel_rfl, fun W => by go_simp⟩) ?_
                      refine wpAny_take (i := 5) (v := .pointer (some ⟨gT, 0, none⟩)) rfl (by kernel_rfl) (by kernel_rfl) (by kernel_rfl) (fun _ _ _ h => h) (Or.inl ⟨by kernel_rfl, fun W => by go_simp⟩) ?_
                      apply cut2
                      · intro hS
                        refine wpAny_ready (rs := [4, 6]) (by kernel_rfl) (by simp) (AllReady.cons rfl (fun K hK => ?_) (AllReady.cons rfl (fun K hK => ?_) AllReady.nil))
                        · go_simp
                          refine hK _ _ ?_
                          clear hK K
                          refine wpAny_ready (rs := [6]) (by kernel_rfl) (by simp) (AllReady.cons rfl (fun K hK => ?_) AllReady.nil)
                          go_simp
                          refine hK _ _ ?_
                          clear hK K
                          exact hS
                        · go_simp
                          refine hK _ _ ?_
                          clear hK K
                          refine wpAny_ready (rs := [4]) (by kernel_rfl) (by simp) (AllReady.cons rfl (fun K hK => ?_) AllReady.nil)
                          go_simp
                          refine hK _ _ ?_
                          clear hK K
                          exact wpAny_swap hS (by kernel_rfl)
                      · refine wpAny_take (i := 7) (v := .bool false) rfl (by kernel_rfl) (by kernel_rfl) (by kernel_rfl) (fun _ _ _ h => h) (Or.inl ⟨by kernel_rfl, fun W => by go_simp⟩) ?_
                        refine wpAny_take (i := 8) (v := .bool false) rfl (by kernel_rfl) (by kernel_rfl) (by kernel_rfl) (fun _ _ _ h => h) (Or.inl ⟨by kernel_rfl, fun W => by go_simp⟩) ?_
                        refine wpAny_take (i := 9) (v := undef) rfl (by kernel_rfl) (by kernel_rfl) (by kernel_rfl) (fun _ _ _ h => h) (Or.inr ⟨by kernel_rfl, rfl⟩) ?_
                        refine wpAny_take (i := 10) (v := undef) rfl (by kernel_rfl) (by kernel_rfl) (by kernel_rfl) (fun _ _ _ h => h) (Or.inr ⟨by kernel_rfl, rfl⟩) ?_
                        refine wpAny_take (i := 11) (v := undef) rfl (by kernel_rfl) (by kernel_rfl) (by kernel_rfl) (fun _ _ _ h => h) (Or.inr ⟨by kernel_rfl, rfl⟩) ?_
                        refine wpAny_take (i := 12) (v := undef) rfl (by kernel_rfl) (by kernel_rfl) (by kernel_rfl) (fun _ _ _ h => h) (Or.inr ⟨by kernel_rfl, rfl⟩) ?_
                        refine wpAny_take (i := 13) (v := undef) rfl (by kernel_rfl) (by kernel_rfl) (by kernel_rfl) (fun _ _ _ h => h) (Or.inr ⟨by kernel_rfl, rfl⟩) ?_
                        refine wpAny_take (i := 14) (v := undef) rfl (by kernel_rfl) (by kernel_rfl) (by kernel_rfl) (fun _ _ _ h => h) (Or.inr ⟨by kernel_rfl, rfl⟩) ?_
                        refine wpAny_take (i := 15) (v := undef) rfl (by kernel_rfl) (by kernel_rfl) (by kernel_rfl) (fun _ _ _ h => h) (Or.inr ⟨by kernel_rfl, rfl⟩) ?_
                        refine wpAny_take (i := 16) (v := undef) rfl (by kernel_rfl) (by kernel_rfl) (by kernel_rfl) (fun _ _ _ h => h) (Or.inr ⟨by kernel_rfl, rfl⟩) ?_
                        refine wpAny_take (i := 17) (v := undef) rfl (by kernel_rfl) (by kernel_rfl) (by kernel_rfl) (fun _ _ _ h => h) (Or.inr ⟨by kernel_rfl, rfl⟩) ?_
                        refine wpAny_take (i := 18) (v := undef) rfl (by kernel_rfl) (by kernel_rfl) (by kernel_rfl) (fun _ _ _ h => h) (Or.inr ⟨by kernel_rfl, rfl⟩) ?_
                        refine wpAny_take (i := 19) (v := undef) rfl (by kernel_rfl) (by kernel_rfl) (by kernel_rfl) (fun _ _ _ h => h) (Or.inr ⟨by kernel_rfl, rfl⟩) ?_
                        refine wpAny_take (i := 20) (v := undef) rfl (by kernel_rfl) (by kernel_rfl) (by kernel_rfl) (fun _ _ _ h => h) (Or.inr ⟨by kernel_rfl, rfl⟩) ?_
                        refine wpAny_take (i := 21) (v := undef) rfl (by kernel_rfl) (by kernel_rfl) (by kernel_rfl) (fun _ _ _ h => h) (Or.inr ⟨by kernel_rfl, rfl⟩) ?_
                        refine wpAny_take (i := 22) (v := undef) rfl (by kernel_rfl) (by kernel_rfl) (by kernel_rfl) (fun _ _ _ h => h) (Or.inr ⟨by kernel_rfl, rfl⟩) ?_
                        refine wpAny_take (i := 23) (v := undef) rfl (by kernel_rfl) (by kernel_rfl) (by kernel_rfl) (fun _ _ _ h => h) (Or.inr ⟨by kernel_rfl, rfl⟩) ?_
                        refine wpAny_take (i := 24) (v := undef) rfl (by kernel_rfl) (by kernel_rfl) (by kernel_rfl) (fun _ _ _ h => h) (Or.inr ⟨by kernel_rfl, rfl⟩) ?_
                        refine wpAny_take (i := 25) (v := undef) rfl (by kernel_rfl) (by kernel_rfl) (by kernel_rfl) (fun _ _ _ h => h) (Or.inr ⟨by kernel_rfl, rfl⟩) ?_
                        refine wpAny_take (i := 26) (v := undef) rfl (by kernel_rfl) (by kernel_rfl) (by kernel_rfl) (fun _ _ _ h => h) (Or.inr ⟨by kernel_rfl, rfl⟩) ?_
                        refine wpAny_take (i := 27) (v := undef) rfl (by kernel_rfl) (by kernel_rfl) (by kernel_rfl) (fun _ _ _ h => h) (Or.inr ⟨by kernel_rfl, rfl⟩) ?_
                        refine wpAny_take (i := 28) (v := undef) rfl (by kernel_rfl) (by kernel_rfl) (by kernel_rfl) (fun _ _ _ h => h) (Or.inr ⟨by kernel_rfl, rfl⟩) ?_
                        refine wpAny_take (i := 29) (v := undef) rfl (by kernel_rfl) (by kernel_rfl) (by kernel_rfl) (fun _ _ _ h => h) (Or.inr ⟨by kernel_rfl, rfl⟩) ?_
                        refine wpAny_take (i := 30) (v := undef) rfl (by kernel_rfl) (by kernel_rfl) (by kernel_rfl) (fun _ _ _ h => h) (Or.inr ⟨by kernel_rfl, rfl⟩) ?_
                        refine wpAny_take (i := 31) (v := undef) rfl (by kernel_rfl) (by kernel_rfl) (by kernel_rfl) (fun _ _ _ h => h) (Or.inr ⟨by kernel_rfl, rfl⟩) ?_
                        refine wpAny_take (i := 32) (v := undef) rfl (by kernel_rfl) (by kernel_rfl) (by kernel_rfl) (fun _ _ _ h => h) (Or.inr ⟨by kernel_rfl, rfl⟩) ?_
                        refine wpAny_take (i := 33) (v := undef) rfl (by kernel_rfl) (by kernel_rfl) (by kernel_rfl) (fun _ _ _ h => h) (Or.inr ⟨by kernel_rfl, rfl⟩) ?_
                        refine wpAny_take (i := 34) (v := undef) rfl (by kernel_rfl) (by kernel_rfl) (by kernel_rfl) (fun _ _ _ h => h) (Or.inr ⟨by kernel_rfl, rfl⟩) ?_
                        refine wpAny_take (i := 35) (v := undef) rfl (by kernel_rfl) (by kernel_rfl) (by kernel_rfl) (fun _ _ _ h => h) (Or.inr ⟨by kernel_rfl, rfl⟩) ?_
                        refine wpAny_take (i := 36) (v := undef) rfl (by kernel_rfl) (by kernel_rfl) (by kernel_rfl) (fun _ _ _ h => h) (Or.inr ⟨by kernel_rfl, rfl⟩) ?_
                        refine wpAny_take (i := 37) (v := undef) rfl (by kernel_rfl) (by kernel_rfl) (by kernel_rfl) (fun _ _ _ h => h) (Or.inr ⟨by kernel_rfl, rfl⟩) ?_
                        refine wpAny_take (i := 38) (v := undef) rfl (by kernel_rfl) (by kernel_rfl) (by kernel_rfl) (fun _ _ _ h => h) (Or.inr ⟨by kernel_rfl, rfl⟩) ?_
                        refine wpAny_take (i := 39) (v := undef) rfl (by kernel_rfl) (by kernel_rfl) (by kernel_rfl) (fun _ _ _ h => h) (Or.inr ⟨by kernel_rfl, rfl⟩) ?_
                        refine wpAny_take (i := 40) (v := .bool false) rfl (by kernel_rfl) (by kernel_rfl) (by kernel_rfl) (fun _ _ _ h => h) (Or.inl ⟨by kernel_rfl, fun W => by go_simp⟩) ?_
                        refine wpAny_done (by kernel_rfl) ?_ _
                        simp only [onlyN]
                        go_simp
                        exact hK' _ ⟨own_drew (own_refl _), htq.on (own_drew (own_refl _))⟩
                    · intro wX ⟨hbX, htX⟩
                      have hbelX := below_own hbelq hbX
                      have hst := Lib.hid ((rowF_step HZ.out HR.out).trans (by unfold pairF; rw [HU1.out, HU2.out, HU3.out, HC.out] <;> rfl))
                      go_wp2
                      go_roundw
                      case rel => exact ⟨m + 1, by omega, by go_num, hst.out, hbelX, htX⟩
                      case measure => simp [intOf]; omega
                  · have HC := Lib.hid hcl
                    cases hsn : decide (x.t.sn < z.t.sn)
                    · have HS := Lib.hid hsn
                      cases hts : decide (x.t.ts ≤ z.t.ts)
                      · have HT := Lib.hid hts
                        go_wp2_with fail
                        apply region_cut (fun W' => Below wq.heap.size wq W' ∧ BoxT W' gT x)
                        · intro hK'
                          refine region_plain (N := 41) rfl (by kernel_rfl) ?_
                          refine wpAny_take (i := 0) (v := .slice (some ⟨b, off, none⟩) n c) rfl (by kernel_rfl) (by kernel_rfl) (by kernel_rfl) (fun _ _ _ h => h) (Or.inl ⟨by kernel_rfl, fun W => by go_simp⟩) ?_
                          refine wpAny_take (i := 1) (v := .int .i64 m) rfl (by kernel_rfl) (by kernel_rfl) (by kernel_rfl) (fun _ _ _ h => h) (Or.inl ⟨by kernel_rfl, fun W => by go_simp⟩) ?_
                          refine wpAny_take (i := 2) (v := .pointer (some ⟨b, off + m * 8, none⟩)) rfl (by kernel_rfl) (by kernel_rfl) (by kernel_rfl) (fun _ _ _ h => h) (Or.inl ⟨by kernel_rfl, fun W => by go_simp⟩) ?_
                          refine wpAny_take (i := 3) (v := .pointer (some ⟨b, off + m * 8, none⟩)) rfl (by kernel_rfl) (by kernel_rfl) (by kernel_rfl) (fun _ _ _ h => h) (Or.inl ⟨by kernel_rfl, fun W => by go_simp⟩) ?_
                          refine wpAny_take (i := 5) (v := .pointer (some ⟨gT, 0, none⟩)) rfl (by kernel_rfl) (by kernel_rfl) (by kernel_rfl) (fun _ _ _ h => h) (Or.inl ⟨by kernel_rfl, fun W => by go_simp⟩) ?_
                          apply cut2
                          · intro hS
                            refine wpAny_ready (rs := [4, 6]) (by kernel_rfl) (by simp) (AllReady.cons rfl (fun K hK => ?_) (AllReady.cons rfl (fun K hK => ?_) AllReady.nil))
                            · go_simp
                              refine hK _ _ ?_
                              clear hK K
                              refine wpAny_ready (rs := [6]) (by kernel_rfl) (by simp) (AllReady.cons rfl (fun K hK => ?_) AllReady.nil)
                              go_simp
                              refine hK _ _ ?_
                              clear hK K
                              exact hS
                            · go_simp
                              refine hK _ _ ?_
                              clear hK K
                              refine wpAny_ready (rs := [4]) (by kernel_rfl) (by simp) (AllReady.cons rfl (fun K hK => ?_) AllReady.nil)
                              go_simp
                              refine hK _ _ ?_
                              clear hK K
                              exact wpAny_swap hS (by kernel_rfl)
                          · refine wpAny_take (i := 7) (v := .bool true) rfl (by kernel_rfl) (by kernel_rfl) (by kernel_rfl) (fun _ _ _ h => h) (Or.inl ⟨by kernel_rfl, fun W => by go_simp⟩) ?_
                            refine wpAny_take (i := 8) (v := .bool true) rfl (by kernel_rfl) (by kernel_rfl) (by kernel_rfl) (fun _ _ _ h => h) (Or.inl ⟨by kernel_rfl, fun W => by go_simp⟩) ?_
                            refine wpAny_take (i := 9) (v := .slice (some ⟨b, off, none⟩) n c) rfl (by kernel_rfl) (by kernel_rfl) (by kernel_rfl) (fun _ _ _ h => h) (Or.inl ⟨by kernel_rfl, fun W => by go_simp⟩) ?_
                            refine wpAny_take (i := 10) (v := .int .i64 m) rfl (by kernel_rfl) (by kernel_rfl) (by kernel_rfl) (fun _ _ _ h => h) (Or.inl ⟨by kernel_rfl, fun W => by go_simp⟩) ?_
                            refine wpAny_take (i := 11) (v := .pointer (some ⟨b, off + m * 8, none⟩)) rfl (by kernel_rfl) (by kernel_rfl) (by kernel_rfl) (fun _ _ _ h => h) (Or.inl ⟨by kernel_rfl, fun W => by go_simp⟩) ?_
                            refine wpAny_take (i := 12) (v := .pointer (some ⟨b, off + m * 8 + 1, none⟩)) rfl (by kernel_rfl) (by kernel_rfl) (by kernel_rfl) (fun _ _ _ h => h) (Or.inl ⟨by kernel_rfl, fun W => by go_simp⟩) ?_
                            refine wpAny_take (i := 14) (v := .pointer (some ⟨gT, 1, none⟩)) rfl (by kernel_rfl) (by kernel_rfl) (by kernel_rfl) (fun _ _ _ h => h) (Or.inl ⟨by kernel_rfl, fun W => by go_simp⟩) ?_
                            apply cut2
                            · intro hS
                              refine wpAny_ready (rs := [13, 15]) (by kernel_rfl) (by simp) (AllReady.cons rfl (fun K hK => ?_) (AllReady.cons rfl (fun K hK => ?_) AllReady.nil))
                              · go_simp
                                refine hK _ _ ?_
                                clear hK K
                                refine wpAny_ready (rs := [15]) (by kernel_rfl) (by simp) (AllReady.cons rfl (fun K hK => ?_) AllReady.nil)
                                go_simp
                                refine hK _ _ ?_
                                clear hK K
                                exact hS
                              · go_simp
                                refine hK _ _ ?_
                                clear hK K
                                refine wpAny_ready (rs := [13]) (by kernel_rfl) (by simp) (AllReady.cons rfl (fun K hK => ?_) AllReady.nil)
                                go_simp
                                refine hK _ _ ?_
                                clear hK K
                                exact wpAny_swap hS (by kernel_rfl)
                            · refine wpAny_take (i := 16) (v := .bool false) rfl (by kernel_rfl) (by kernel_rfl) (by kernel_rfl) (fun _ _ _ h => h) (Or.inl ⟨by kernel_rfl, fun W => by go_simp⟩) ?_
                              refine wpAny_take (i := 17) (v := .bool false) rfl (by kernel_rfl) (by kernel_rfl) (by kernel_rfl) (fun _ _ _ h => h) (Or.inl ⟨by kernel_rfl, fun W => by go_simp⟩) ?_
                              refine wpAny_ready (rs := [18]) (by kernel_rfl) (by simp) (AllReady.cons rfl (fun K hK => ?_) AllReady.nil)
                              go_simp
                              refine hK _ _ ?_
                              clear hK K
                              refine wpAny_ready (rs := [19]) (by kernel_rfl) (by simp) (AllReady.cons rfl (fun K hK => ?_) AllReady.nil)
                              go_simp
                              refine (hhas_any x _).mono ?_
                              rintro e w1 ⟨rfl, hb1⟩
                              rw [HU1.out]
                              have ho1 : Below wq.heap.size wq w1 := below_own (own_drew (own_refl _)) hb1
                              have t0_1 := cell_on ho1 t0
                              have t1_1 := cell_on ho1 t1
                              have t2_1 := cell_on ho1 t2
                              have t3_1 := cell_on ho1 t3
                              have t4_1 := cell_on ho1 t4
                              have t5_1 := cell_on ho1 t5
                              have t6_1 := cell_on ho1 t6
                              have t7_1 := cell_on ho1 t7
                              have z0_1 := cell_on ho1 z0
                              have z1_1 := cell_on ho1 z1
                              have z2_1 := cell_on ho1 z2
                              have z3_1 := cell_on ho1 z3
                              have z4_1 := cell_on ho1 z4
                              have z5_1 := cell_on ho1 z5
                              have z6_1 := cell_on ho1 z6
                              have z7_1 := cell_on ho1 z7
                              refine hK _ _ ?_
                              clear hK K
                              refine wpAny_take (i := 20) (v := .bool true) rfl (by kernel_rfl) (by kernel_rfl) (by kernel_rfl) (fun _ _ _ h => h) (Or.inl ⟨by kernel_rfl, fun W => by go_simp⟩) ?_
                              refine wpAny_take (i := 21) (v := .slice (some ⟨b, off, none⟩) n c) rfl (by kernel_rfl) (by kernel_rfl) (by kernel_rfl) (fun _ _ _ h => h) (Or.inl ⟨by kernel_rfl, fun W => by go_simp⟩) ?_
                              refine wpAny_take (i := 22) (v := .int .i64 m) rfl (by kernel_rfl) (by kernel_rfl) (by kernel_rfl) (fun _ _ _ h => h) (Or.inl ⟨by kernel_rfl, fun W => by go_simp⟩) ?_
                              refine wpAny_take (i := 23) (v := .pointer (some ⟨b, off + m * 8, none⟩)) rfl (by kernel_rfl) (by kernel_rfl) (by kernel_rfl) (fun _ _ _ h => h) (Or.inl ⟨by kernel_rfl, fun W => by go_simp⟩) ?_
                              refine wpAny_ready (rs := [24]) (by kernel_rfl) (by simp) (AllReady.cons rfl (fun K hK => ?_) AllReady.nil)
                              go_simp
                              refine hK _ _ ?_
                              clear hK K
                              refine wpAny_ready (rs := [25]) (by kernel_rfl) (by simp) (AllReady.cons rfl (fun K hK => ?_) AllReady.nil)
                              go_simp
                              refine (hhas_any z _).mono ?_
                              rintro e w2 ⟨rfl, hb2⟩
                              rw [HU2.out]
                              have ho2 : Below wq.heap.size wq w2 := below_own (ho1) hb2
                              have t0_2 := cell_on ho2 t0
                              have t1_2 := cell_on ho2 t1
                              have t2_2 := cell_on ho2 t2
                              have t3_2 := cell_on ho2 t3
                              have t4_2 := cell_on ho2 t4
                              have t5_2 := cell_on ho2 t5
                              have t6_2 := cell_on ho2 t6
                              have t7_2 := cell_on ho2 t7
                              have z0_2 := cell_on ho2 z0
                              have z1_2 := cell_on ho2 z1
                              have z2_2 := cell_on ho2 z2
                              have z3_2 := cell_on ho2 z3
                              have z4_2 := cell_on ho2 z4
                              have z5_2 := cell_on ho2 z5
                              have z6_2 := cell_on ho2 z6
                              have z7_2 := cell_on ho2 z7
                              refine hK _ _ ?_
                              clear hK K
                              refine wpAny_take (i := 26) (v := .bool true) rfl (by kernel_rfl) (by kernel_rfl) (by kernel_rfl) (fun _ _ _ h => h) (Or.inl ⟨by kernel_rfl, fun W => by go_simp⟩) ?_
                              refine wpAny_take (i := 27) (v := .bool true) rfl (by kernel_rfl) (by kernel_rfl) (by kernel_rfl) (fun _ _ _ h => h) (Or.inl ⟨by kernel_rfl, fun W => by go_simp⟩) ?_
                              refine wpAny_take (i := 28) (v := .pointer (some ⟨gT, 3, none⟩)) rfl (by kernel_rfl) (by kernel_rfl) (by kernel_rfl) (fun _ _ _ h => h) (Or.inl ⟨by kernel_rfl, fun W => by go_simp⟩) ?_
                              refine wpAny_take (i := 29) (v := .pointer (some ⟨gT, 3, none⟩)) rfl (by kernel_rfl) (by kernel_rfl) (by kernel_rfl) (fun _ _ _ h => h) (Or.inl ⟨by kernel_rfl, fun W => by go_simp⟩) ?_
                              refine wpAny_take (i := 31) (v := .slice (some ⟨b, off, none⟩) n c) rfl (by kernel_rfl) (by kernel_rfl) (by kernel_rfl) (fun _ _ _ h => h) (Or.inl ⟨by kernel_rfl, fun W => by go_simp⟩) ?_
                              refine wpAny_take (i := 32) (v := .int .i64 m) rfl (by kernel_rfl) (by kernel_rfl) (by kernel_rfl) (fun _ _ _ h => h) (Or.inl ⟨by kernel_rfl, fun W => by go_simp⟩) ?_
                              refine wpAny_take (i := 33) (v := .pointer (some ⟨b, off + m * 8, none⟩)) rfl (by kernel_rfl) (by kernel_rfl) (by kernel_rfl) (fun _ _ _ h => h) (Or.inl ⟨by kernel_rfl, fun W => by go_simp⟩) ?_
                              refine wpAny_take (i := 34) (v := .pointer (some ⟨b, off + m * 8 + 3, none⟩)) rfl (by kernel_rfl) (by kernel_rfl) (by kernel_rfl) (fun _ _ _ h => h) (Or.inl ⟨by kernel_rfl, fun W => by go_simp⟩) ?_
                              refine wpAny_take (i := 35) (v := .pointer (some ⟨b, off + m * 8 + 3, none⟩)) rfl (by kernel_rfl) (by kernel_rfl) (by kernel_rfl) (fun _ _ _ h => h) (Or.inl ⟨by kernel_rfl, fun W => by go_simp⟩) ?_
                              apply cut2
                              · intro hS
                                refine wpAny_ready (rs := [30, 36]) (by kernel_rfl) (by simp) (AllReady.cons rfl (fun K hK => ?_) (AllReady.cons rfl (fun K hK => ?_) AllReady.nil))
                                · go_simp
                                  refine hK _ _ ?_
                                  clear hK K
                                  refine wpAny_ready (rs := [36]) (by kernel_rfl) (by simp) (AllReady.cons rfl (fun K hK => ?_) AllReady.nil)
                                  go_simp
                                  refine hK _ _ ?_
                                  clear hK K
                                  exact hS
                                · go_simp
                                  refine hK _ _ ?_
                                  clear hK K
                                  refine wpAny_ready (rs := [30]) (by kernel_rfl) (by simp) (AllReady.cons rfl (fun K hK => ?_) AllReady.nil)
                                  go_simp
                                  refine hK _ _ ?_
                                  clear hK K
                                  exact wpAny_swap hS (by kernel_rfl)
                              · refine wpAny_take (i := 37) (v := .bool false) rfl (by kernel_rfl) (by kernel_rfl) (by kernel_rfl) (fun _ _ _ h => h) (Or.inl ⟨by kernel_rfl, fun W => by go_simp⟩) ?_
                                refine wpAny_take (i := 38) (v := .bool false) rfl (by kernel_rfl) (by kernel_rfl) (by kernel_rfl) (fun _ _ _ h => h) (Or.inl ⟨by kernel_rfl, fun W => by go_simp⟩) ?_
                                refine wpAny_take (i := 39) (v := .bool false) rfl (by kernel_rfl) (by kernel_rfl) (by kernel_rfl) (fun _ _ _ h => h) (Or.inl ⟨by kernel_rfl, fun W => by go_simp⟩) ?_
                                refine wpAny_take (i := 40) (v := .bool false) rfl (by kernel_rfl) (by kernel_rfl) (by kernel_rfl) (fun _ _ _ h => h) (Or.inl ⟨by kernel_rfl, fun W => by go_simp⟩) ?_
                                refine wpAny_done (by kernel_rfl) ?_ _
                                simp only [onlyN]
                                go_simp
                                exact hK' _ ⟨ho2, htq.on (ho2)⟩
                        · intro wX ⟨hbX, htX⟩
                          have hbelX := below_own hbelq hbX
                          have hst := Lib.hid ((rowF_step HZ.out HR.out).trans (by unfold pairF; rw [HU1.out, HU2.out, HU3.out, HC.out, HS.out, HT.out] <;> rfl))
                          go_wp2
                          go_roundw
                          case rel => exact ⟨m + 1, by omega, by go_num, hst.out, hbelX, htX⟩
                          case measure => simp [intOf]; omega
                      · have HT := Lib.hid hts
                        go_wp2_with fail
                        apply region_cut (fun W' => Below wq.heap.size wq W' ∧ BoxT W' gT x)
                        · intro hK'
                          refine region_plain (N := 41) rfl (by kernel_rfl) ?_
                          refine wpAny_take (i := 0) (v := .slice (some ⟨b, off, none⟩) n c) rfl (by kernel_rfl) (by kernel_rfl) (by kernel_rfl) (fun _ _ _ h => h) (Or.inl ⟨by kernel_rfl, fun W => by go_simp⟩) ?_
                          refine wpAny_take (i := 1) (v := .int .i64 m) rfl (by kernel_rfl) (by kernel_rfl) (by kernel_rfl) (fun _ _ _ h => h) (Or.inl ⟨by kernel_rfl, fun W => by go_simp⟩) ?_
                          refine wpAny_take (i := 2) (v := .pointer (some ⟨b, off + m * 8, none⟩)) rfl (by kernel_rfl) (by kernel_rfl) (by kernel_rfl) (fun _ _ _ h => h) (Or.inl ⟨by kernel_rfl, fun W => by go_simp⟩) ?_
                          refine wpAny_take (i := 3) (v := .pointer (some ⟨b, off + m * 8, none⟩)) rfl (by kernel_rfl) (by kernel_rfl) (by kernel_rfl) (fun _ _ _ h => h) (Or.inl ⟨by kernel_rfl, fun W => by go_simp⟩) ?_
                          refine wpAny_take (i := 5) (v := .pointer (some ⟨gT, 0, none⟩)) rfl (by kernel_rfl) (by kernel_rfl) (by kernel_rfl) (fun _ _ _ h => h) (Or.inl ⟨by kernel_rfl, fun W => by go_simp⟩) ?_
                          apply cut2
                          · intro hS
                            refine wpAny_ready (rs := [4, 6]) (by kernel_rfl) (by simp) (AllReady.cons rfl (fun K hK => ?_) (AllReady.cons rfl (fun K hK => ?_) AllReady.nil))
                            · go_simp
                              refine hK _ _ ?_
                              clear hK K
                              refine wpAny_ready (rs := [6]) (by kernel_rfl) (by simp) (AllReady.cons rfl (fun K hK => ?_) AllReady.nil)
                              go_simp
                              refine hK _ _ ?_
                              clear hK K
                              exact hS
                            · go_simp
                              refine hK _ _ ?_
                              clear hK K
                              refine wpAny_ready (rs := [4]) (by kernel_rfl) (by simp) (AllReady.cons rfl (fun K hK => ?_) AllReady.nil)
                              go_simp
                              refine hK _ _ ?_
                              clear hK K
                              exact wpAny_swap hS (by kernel_rfl)
                          · refine wpAny_take (i := 7) (v := .bool true) rfl (by kernel_rfl) (by kernel_rfl) (by kernel_rfl) (fun _ _ _ h => h) (Or.inl ⟨by kernel_rfl, fun W => by go_simp⟩) ?_
                            refine wpAny_take (i := 8) (v := .bool true) rfl (by kernel_rfl) (by kernel_rfl) (by kernel_rfl) (fun _ _ _ h => h) (Or.inl ⟨by kernel_rfl, fun W => by go_simp⟩) ?_
                            refine wpAny_take (i := 9) (v := .slice (some ⟨b, off, none⟩) n c) rfl (by kernel_rfl) (by kernel_rfl) (by kernel_rfl) (fun _ _ _ h => h) (Or.inl ⟨by kernel_rfl, fun W => by go_simp⟩) ?_
                            refine wpAny_take (i := 10) (v := .int .i64 m) rfl (by kernel_rfl) (by kernel_rfl) (by kernel_rfl) (fun _ _ _ h => h) (Or.inl ⟨by kernel_rfl, fun W => by go_simp⟩) ?_
                            refine wpAny_take (i := 11) (v := .pointer (some ⟨b, off + m * 8, none⟩)) rfl (by kernel_rfl) (by kernel_rfl) (by kernel_rfl) (fun _ _ _ h => h) (Or.inl ⟨by kernel_rfl, fun W => by go_simp⟩) ?_
                            refine wpAny_take (i := 12) (v := .pointer (some ⟨b, off + m * 8 + 1, none⟩)) rfl (by kernel_rfl) (by kernel_rfl) (by kernel_rfl) (fun _ _ _ h => h) (Or.inl ⟨by kernel_rfl, fun W => by go_simp⟩) ?_
                            refine wpAny_take (i := 14) (v := .pointer (some ⟨gT, 1, none⟩)) rfl (by kernel_rfl) (by kernel_rfl) (by kernel_rfl) (fun _ _ _ h => h) (Or.inl ⟨by kernel_rfl, fun W => by go_simp⟩) ?_
                            apply cut2
                            · intro hS
                              refine wpAny_ready (rs := [13, 15]) (by kernel_rfl) (by simp) (AllReady.cons rfl (fun K hK => ?_) (AllReady.cons rfl (fun K hK => ?_) AllReady.nil))
                              · go_simp
                                refine hK _ _ ?_
                                clear hK K
                                refine wpAny_ready (rs := [15]) (by kernel_rfl) (by simp) (AllReady.cons rfl (fun K hK => ?_) AllReady.nil)
                                go_simp
                                refine hK _ _ ?_
                                clear hK K
                                exact hS
                              · go_simp
                                refine hK _ _ ?_
                                clear hK K
                                refine wpAny_ready (rs := [13]) (by kernel_rfl) (by simp) (AllReady.cons rfl (fun K hK => ?_) AllReady.nil)
                                go_simp
                                refine hK _ _ ?_
                                clear hK K
                                exact wpAny_swap hS (by kernel_rfl)
                            · refine wpAny_take (i := 16) (v := .bool false) rfl (by kernel_rfl) (by kernel_rfl) (by kernel_rfl) (fun _ _ _ h => h) (Or.inl ⟨by kernel_rfl, fun W => by go_simp⟩) ?_
                              refine wpAny_take (i := 17) (v := .bool false) rfl (by kernel_rfl) (by kernel_rfl) (by kernel_rfl) (fun _ _ _ h => h) (Or.inl ⟨by kernel_rfl, fun W => by go_simp⟩) ?_
                              refine wpAny_ready (rs := [18]) (by kernel_rfl) (by simp) (AllReady.cons rfl (fun K hK => ?_) AllReady.nil)
                              go_simp
                              refine hK _ _ ?_
                              clear hK K
                              refine wpAny_ready (rs := [19]) (by kernel_rfl) (by simp) (AllReady.cons rfl (fun K hK => ?_) AllReady.nil)
                              go_simp
                              refine (hhas_any x _).mono ?_
                              rintro e w1 ⟨rfl, hb1⟩
                              rw [HU1.out]
                              have ho1 : Below wq.heap.size wq w1 := below_own (own_drew (own_refl _)) hb1
                              have t0_1 := cell_on ho1 t0
                              have t1_1 := cell_on ho1 t1
                              have t2_1 := cell_on ho1 t2
                              have t3_1 := cell_on ho1 t3
                              have t4_1 := cell_on ho1 t4
                              have t5_1 := cell_on ho1 t5
                              have t6_1 := cell_on ho1 t6
                              have t7_1 := cell_on ho1 t7
                              have z0_1 := cell_on ho1 z0
                              have z1_1 := cell_on ho1 z1
                              have z2_1 := cell_on ho1 z2
                              have z3_1 := cell_on ho1 z3
                              have z4_1 := cell_on ho1 z4
                              have z5_1 := cell_on ho1 z5
                              have z6_1 := cell_on ho1 z6
                              have z7_1 := cell_on ho1 z7
                              refine hK _ _ ?_
                              clear hK K
                              refine wpAny_take (i := 20) (v := .bool true) rfl (by kernel_rfl) (by kernel_rfl) (by kernel_rfl) (fun _ _ _ h => h) (Or.inl ⟨by kernel_rfl, fun W => by go_simp⟩) ?_
                              refine wpAny_take (i := 21) (v := .slice (some ⟨b, off, none⟩) n c) rfl (by kernel_rfl) (by kernel_rfl) (by kernel_rfl) (fun _ _ _ h => h) (Or.inl ⟨by kernel_rfl, fun W => by go_simp⟩) ?_
                              refine wpAny_take (i := 22) (v := .int .i64 m) rfl (by kernel_rfl) (by kernel_rfl) (by kernel_rfl) (fun _ _ _ h => h) (Or.inl ⟨by kernel_rfl, fun W => by go_simp⟩) ?_
                              refine wpAny_take (i := 23) (v := .pointer (some ⟨b, off + m * 8, none⟩)) rfl (by kernel_rfl) (by kernel_rfl) (by kernel_rfl) (fun _ _ _ h => h) (Or.inl ⟨by kernel_rfl, fun W => by go_simp⟩) ?_
                              refine wpAny_ready (rs := [24]) (by kernel_rfl) (by simp) (AllReady.cons rfl (fun K hK => ?_) AllReady.nil)
                              go_simp
                              refine hK _ _ ?_
                              clear hK K
                              refine wpAny_ready (rs := [25]) (by kernel_rfl) (by simp) (AllReady.cons rfl (fun K hK => ?_) AllReady.nil)
                              go_simp
                              refine (hhas_any z _).mono ?_
                              rintro e w2 ⟨rfl, hb2⟩
                              rw [HU2.out]
                              have ho2 : Below wq.heap.size wq w2 := below_own (ho1) hb2
                              have t0_2 := cell_on ho2 t0
                              have t1_2 := cell_on ho2 t1
                              have t2_2 := cell_on ho2 t2
                              have t3_2 := cell_on ho2 t3
                              have t4_2 := cell_on ho2 t4
                              have t5_2 := cell_on ho2 t5
                              have t6_2 := cell_on ho2 t6
                              have t7_2 := cell_on ho2 t7
                              have z0_2 := cell_on ho2 z0
                              have z1_2 := cell_on ho2 z1
                              have z2_2 := cell_on ho2 z2
                              have z3_2 := cell_on ho2 z3
                              have z4_2 := cell_on ho2 z4
                              have z5_2 := cell_on ho2 z5
                              have z6_2 := cell_on ho2 z6
                              have z7_2 := cell_on ho2 z7
                              refine hK _ _ ?_
                              clear hK K
                              refine wpAny_take (i := 26) (v := .bool true) rfl (by kernel_rfl) (by kernel_rfl) (by kernel_rfl) (fun _ _ _ h => h) (Or.inl ⟨by kernel_rfl, fun W => by go_simp⟩) ?_
                              refine wpAny_take (i := 27) (v := .bool true) rfl (by kernel_rfl) (by kernel_rfl) (by kernel_rfl) (fun _ _ _ h => h) (Or.inl ⟨by kernel_rfl, fun W => by go_simp⟩) ?_
                              refine wpAny_take (i := 28) (v := .pointer (some ⟨gT, 3, none⟩)) rfl (by kernel_rfl) (by kernel_rfl) (by kernel_rfl) (fun _ _ _ h => h) (Or.inl ⟨by kernel_rfl, fun W => by go_simp⟩) ?_
                              refine wpAny_take (i := 29) (v := .pointer (some ⟨gT, 3, none⟩)) rfl (by kernel_rfl) (by kernel_rfl) (by kernel_rfl) (fun _ _ _ h => h) (Or.inl ⟨by kernel_rfl, fun W => by go_simp⟩) ?_
                              refine wpAny_take (i := 31) (v := .slice (some ⟨b, off, none⟩) n c) rfl (by kernel_rfl) (by kernel_rfl) (by kernel_rfl) (fun _ _ _ h => h) (Or.inl ⟨by kernel_rfl, fun W => by go_simp⟩) ?_
                              refine wpAny_take (i := 32) (v := .int .i64 m) rfl (by kernel_rfl) (by kernel_rfl) (by kernel_rfl) (fun _ _ _ h => h) (Or.inl ⟨by kernel_rfl, fun W => by go_simp⟩) ?_
                              refine wpAny_take (i := 33) (v := .pointer (some ⟨b, off + m * 8, none⟩)) rfl (by kernel_rfl) (by kernel_rfl) (by kernel_rfl) (fun _ _ _ h => h) (Or.inl ⟨by kernel_rfl, fun W => by go_simp⟩) ?_
                              refine wpAny_take (i := 34) (v := .pointer (some ⟨b, off + m * 8 + 3, none⟩)) rfl (by kernel_rfl) (by kernel_rfl) (by kernel_rfl) (fun _ _ _ h => h) (Or.inl ⟨by kernel_rfl, fun W => by go_simp⟩) ?_
                              refine wpAny_take (i := 35) (v := .pointer (some ⟨b, off + m * 8 + 3, none⟩)) rfl (by kernel_rfl) (by kernel_rfl) (by kernel_rfl) (fun _ _ _ h => h) (Or.inl ⟨by kernel_rfl, fun W => by go_simp⟩) ?_
                              apply cut2
                              · intro hS
                                refine wpAny_ready (rs := [30, 36]) (by kernel_rfl) (by simp) (AllReady.cons rfl (fun K hK => ?_) (AllReady.cons rfl (fun K hK => ?_) AllReady.nil))
                                · go_simp
                                  refine hK _ _ ?_
                                  clear hK K
                                  refine wpAny_ready (rs := [36]) (by kernel_rfl) (by simp) (AllReady.cons rfl (fun K hK => ?_) AllReady.nil)
                                  go_simp
                                  refine hK _ _ ?_
                                  clear hK K
                                  exact hS
                                · go_simp
                                  refine hK _ _ ?_
                                  clear hK K
                                  refine wpAny_ready (rs := [30]) (by kernel_rfl) (by simp) (AllReady.cons rfl (fun K hK => ?_) AllReady.nil)
                                  go_simp
                                  refine hK _ _ ?_
                                  clear hK K
                                  exact wpAny_swap hS (by kernel_rfl)
                              · refine wpAny_take (i := 37) (v := .bool true) rfl (by kernel_rfl) (by kernel_rfl) (by kernel_rfl) (fun _ _ _ h => h) (Or.inl ⟨by kernel_rfl, fun W => by go_simp⟩) ?_
                                refine wpAny_take (i := 38) (v := .bool true) rfl (by kernel_rfl) (by kernel_rfl) (by kernel_rfl) (fun _ _ _ h => h) (Or.inl ⟨by kernel_rfl, fun W => by go_simp⟩) ?_
                                refine wpAny_take (i := 39) (v := .bool true) rfl (by kernel_rfl) (by kernel_rfl) (by kernel_rfl) (fun _ _ _ h => h) (Or.inl ⟨by kernel_rfl, fun W => by go_simp⟩) ?_
                                refine wpAny_take (i := 40) (v := .bool true) rfl (by kernel_rfl) (by kernel_rfl) (by kernel_rfl) (fun _ _ _ h => h) (Or.inl ⟨by kernel_rfl, fun W => by go_simp⟩) ?_
                                refine wpAny_done (by kernel_rfl) ?_ _
                                simp only [onlyN]
                                go_simp
                                exact hK' _ ⟨ho2, htq.on (ho2)⟩
                        · intro wX ⟨hbX, htX⟩
                          have hbelX := below_own hbelq hbX
                          go_wp2
                          refine bodyPost_ret (v := .tuple #[.int .i64 2, .int .i64 k]) (by simp [results, Try.results9, go_sem]) rfl ⟨by rw [check_pair (c := 2) HX.out HM.out HZ.out hlt2 HR.out (by unfold pairF; rw [HU1.out, HU2.out, HU3.out, HC.out, HS.out, HT.out] <;> rfl) (by decide)], hbelX⟩
                    · have HS := Lib.hid hsn
                      go_wp2_with fail
                      apply region_cut (fun W' => Below wq.heap.size wq W' ∧ BoxT W' gT x)
                      · intro hK'
                        refine region_plain (N := 41) rfl (by kernel_rfl) ?_
                        refine wpAny_take (i := 0) (v := .slice (some ⟨b, off, none⟩) n c) rfl (by kernel_rfl) (by kernel_rfl) (by kernel_rfl) (fun _ _ _ h => h) (Or.inl ⟨by kernel_rfl, fun W => by go_simp⟩) ?_
                        refine wpAny_take (i := 1) (v := .int .i64 m) rfl (by kernel_rfl) (by kernel_rfl) (by kernel_rfl) (fun _ _ _ h => h) (Or.inl ⟨by kernel_rfl, fun W => by go_simp⟩) ?_
                        refine wpAny_take (i := 2) (v := .pointer (some ⟨b, off + m * 8, none⟩)) rfl (by kernel_rfl) (by kernel_rfl) (by kernel_rfl) (fun _ _ _ h => h) (Or.inl ⟨by kernel_rfl, fun W => by go_simp⟩) ?_
                        refine wpAny_take (i := 3) (v := .pointer (some ⟨b, off + m * 8, none⟩)) rfl (by kernel_rfl) (by kernel_rfl) (by kernel_rfl) (fun _ _ _ h => h) (Or.inl ⟨by kernel_rfl, fun W => by go_simp⟩) ?_
                        refine wpAny_take (i := 5) (v := .pointer (some ⟨gT, 0, none⟩)) rfl (by kernel_rfl) (by kernel_rfl) (by kernel_rfl) (fun _ _ _ h => h) (Or.inl ⟨by kernel_rfl, fun W => by go_simp⟩) ?_
                        apply cut2
                        · intro hS
                          refine wpAny_ready (rs := [4, 6]) (by kernel_rfl) (by simp) (AllReady.cons rfl (fun K hK => ?_) (AllReady.cons rfl (fun K hK => ?_) AllReady.nil))
                          · go_simp
                            refine hK _ _ ?_
                            clear hK K
                            refine wpAny_ready (rs := [6]) (by kernel_rfl) (by simp) (AllReady.cons rfl (fun K hK => ?_) AllReady.nil)
                            go_simp
                            refine hK _ _ ?_
                            clear hK K
                            exact hS
                          · go_simp
                            refine hK _ _ ?_
                            clear hK K
                            refine wpAny_ready (rs := [4]) (by kernel_rfl) (by simp) (AllReady.cons rfl (fun K hK => ?_) AllReady.nil)
                            go_simp
                            refine hK _ _ ?_
                            clear hK K
                            exact wpAny_swap hS (by kernel_rfl)
                        · refine wpAny_take (i := 7) (v := .bool true) rfl (by kernel_rfl) (by kernel_rfl) (by kernel_rfl) (fun _ _ _ h => h) (Or.inl ⟨by kernel_rfl, fun W => by go_simp⟩) ?_
                          refine wpAny_take (i := 8) (v := .bool true) rfl (by kernel_rfl) (by kernel_rfl) (by kernel_rfl) (fun _ _ _ h => h) (Or.inl ⟨by kernel_rfl, fun W => by go_simp⟩) ?_
                          refine wpAny_take (i := 9) (v := .slice (some ⟨b, off, none⟩) n c) rfl (by kernel_rfl) (by kernel_rfl) (by kernel_rfl) (fun _ _ _ h => h) (Or.inl ⟨by kernel_rfl, fun W => by go_simp⟩) ?_
                          refine wpAny_take (i := 10) (v := .int .i64 m) rfl (by kernel_rfl) (by kernel_rfl) (by kernel_rfl) (fun _ _ _ h => h) (Or.inl ⟨by kernel_rfl, fun W => by go_simp⟩) ?_
                          refine wpAny_take (i := 11) (v := .pointer (some ⟨b, off + m * 8, none⟩)) rfl (by kernel_rfl) (by kernel_rfl) (by kernel_rfl) (fun _ _ _ h => h) (Or.inl ⟨by kernel_rfl, fun W => by go_simp⟩) ?_
                          refine wpAny_take (i := 12) (v := .pointer (some ⟨b, off + m * 8 + 1, none⟩)) rfl (by kernel_rfl) (by kernel_rfl) (by kernel_rfl) (fun _ _ _ h => h) (Or.inl ⟨by kernel_rfl, fun W => by go_simp⟩) ?_
                          refine wpAny_take (i := 14) (v := .pointer (some ⟨gT, 1, none⟩)) rfl (by kernel_rfl) (by kernel_rfl) (by kernel_rfl) (fun _ _ _ h => h) (Or.inl ⟨by kernel_rfl, fun W => by go_simp⟩) ?_
                          apply cut2
                          · intro hS
                            refine wpAny_ready (rs := [13, 15]) (by kernel_rfl) (by simp) (AllReady.cons rfl (fun K hK => ?_) (AllReady.cons rfl (fun K hK => ?_) AllReady.nil))
                            · go_simp
                              refine hK _ _ ?_
                              clear hK K
                              refine wpAny_ready (rs := [15]) (by kernel_rfl) (by simp) (AllReady.cons rfl (fun K hK => ?_) AllReady.nil)
                              go_simp
                              refine hK _ _ ?_
                              clear hK K
                              exact hS
                            · go_simp
                              refine hK _ _ ?_
                              clear hK K
                              refine wpAny_ready (rs := [13]) (by kernel_rfl) (by simp) (AllReady.cons rfl (fun K hK => ?_) AllReady.nil)
                              go_simp
                              refine hK _ _ ?_
                              clear hK K
                              exact wpAny_swap hS (by kernel_rfl)
                          · refine wpAny_take (i := 16) (v := .bool true) rfl (by kernel_rfl) (by kernel_rfl) (by kernel_rfl) (fun _ _ _ h => h) (Or.inl ⟨by kernel_rfl, fun W => by go_simp⟩) ?_
                            refine wpAny_take (i := 17) (v := .bool true) rfl (by kernel_rfl) (by kernel_rfl) (by kernel_rfl) (fun _ _ _ h => h) (Or.inl ⟨by kernel_rfl, fun W => by go_simp⟩) ?_
                            refine wpAny_take (i := 18) (v := undef) rfl (by kernel_rfl) (by kernel_rfl) (by kernel_rfl) (fun _ _ _ h => h) (Or.inr ⟨by kernel_rfl, rfl⟩) ?_
                            refine wpAny_take (i := 19) (v := undef) rfl (by kernel_rfl) (by kernel_rfl) (by kernel_rfl) (fun _ _ _ h => h) (Or.inr ⟨by kernel_rfl, rfl⟩) ?_
                            refine wpAny_take (i := 20) (v := undef) rfl (by kernel_rfl) (by kernel_rfl) (by kernel_rfl) (fun _ _ _ h => h) (Or.inr ⟨by kernel_rfl, rfl⟩) ?_
                            refine wpAny_take (i := 21) (v := undef) rfl (by kernel_rfl) (by kernel_rfl) (by kernel_rfl) (fun _ _ _ h => h) (Or.inr ⟨by kernel_rfl, rfl⟩) ?_
                            refine wpAny_take (i := 22) (v := undef) rfl (by kernel_rfl) (by kernel_rfl) (by kernel_rfl) (fun _ _ _ h => h) (Or.inr ⟨by kernel_rfl, rfl⟩) ?_
                            refine wpAny_take (i := 23) (v := undef) rfl (by kernel_rfl) (by kernel_rfl) (by kernel_rfl) (fun _ _ _ h => h) (Or.inr ⟨by kernel_rfl, rfl⟩) ?_
                            refine wpAny_take (i := 24) (v := undef) rfl (by kernel_rfl) (by kernel_rfl) (by kernel_rfl) (fun _ _ _ h => h) (Or.inr ⟨by kernel_rfl, rfl⟩) ?_
                            refine wpAny_take (i := 25) (v := undef) rfl (by kernel_rfl) (by kernel_rfl) (by kernel_rfl) (fun _ _ _ h => h) (Or.inr ⟨by kernel_rfl, rfl⟩) ?_
                            refine wpAny_take (i := 26) (v := undef) rfl (by kernel_rfl) (by kernel_rfl) (by kernel_rfl) (fun _ _ _ h => h) (Or.inr ⟨by kernel_rfl, rfl⟩) ?_
                            refine wpAny_take (i := 27) (v := undef) rfl (by kernel_rfl) (by kernel_rfl) (by kernel_rfl) (fun _ _ _ h => h) (Or.inr ⟨by kernel_rfl, rfl⟩) ?_
                            refine wpAny_take (i := 28) (v := undef) rfl (by kernel_rfl) (by kernel_rfl) (by kernel_rfl) (fun _ _ _ h => h) (Or.inr ⟨by kernel_rfl, rfl⟩) ?_
                            refine wpAny_take (i := 29) (v := undef) rfl (by kernel_rfl) (by kernel_rfl) (by kernel_rfl) (fun _ _ _ h => h) (Or.inr ⟨by kernel_rfl, rfl⟩) ?_
                            refine wpAny_take (i := 30) (v := undef) rfl (by kernel_rfl) (by kernel_rfl) (by kernel_rfl) (fun _ _ _ h => h) (Or.inr ⟨by kernel_rfl, rfl⟩) ?_
                            refine wpAny_take (i := 31) (v := undef) rfl (by kernel_rfl) (by kernel_rfl) (by kernel_rfl) (fun _ _ _ h => h) (Or.inr ⟨by kernel_rfl, rfl⟩) ?_
                            refine wpAny_take (i := 32) (v := undef) rfl (by kernel_rfl) (by kernel_rfl) (by kernel_rfl) (fun _ _ _ h => h) (Or.inr ⟨by kernel_rfl, rfl⟩) ?_
                            refine wpAny_take (i := 33) (v := undef) rfl (by kernel_rfl) (by kernel_rfl) (by kernel_rfl) (fun _ _ _ h => h) (Or.inr ⟨by kernel_rfl, rfl⟩) ?_
                            refine wpAny_take (i := 34) (v := undef) rfl (by kernel_rfl) (by kernel_rfl) (by kernel_rfl) (fun _ _ _ h => h) (Or.inr ⟨by kernel_rfl, rfl⟩) ?_
                            refine wpAny_take (i := 35) (v := undef) rfl (by kernel_rfl) (by kernel_rfl) (by kernel_rfl) (fun _ _ _ h => h) (Or.inr ⟨by kernel_rfl, rfl⟩) ?_
                            refine wpAny_take (i := 36) (v := undef) rfl (by kernel_rfl) (by kernel_rfl) (by kernel_rfl) (fun _ _ _ h => h) (Or.inr ⟨by kernel_rfl, rfl⟩) ?_
                            refine wpAny_take (i := 37) (v := undef) rfl (by kernel_rfl) (by kernel_rfl) (by kernel_rfl) (fun _ _ _ h => h) (Or.inr ⟨by kernel_rfl, rfl⟩) ?_
                            refine wpAny_take (i := 38) (v := undef) rfl (by kernel_rfl) (by kernel_rfl) (by kernel_rfl) (fun _ _ _ h => h) (Or.inr ⟨by kernel_rfl, rfl⟩) ?_
                            refine wpAny_take (i := 39) (v := .bool true) rfl (by kernel_rfl) (by kernel_rfl) (by kernel_rfl) (fun _ _ _ h => h) (Or.inl ⟨by kernel_rfl, fun W => by go_simp⟩) ?_
                            refine wpAny_take (i := 40) (v := .bool true) rfl (by kernel_rfl) (by kernel_rfl) (by kernel_rfl) (fun _ _ _ h => h) (Or.inl ⟨by kernel_rfl, fun W => by go_simp⟩) ?_
                            refine wpAny_done (by kernel_rfl) ?_ _
                            simp only [onlyN]
                            go_simp
                            exact hK' _ ⟨own_drew (own_refl _), htq.on (own_drew (own_refl _))⟩
                      · intro wX ⟨hbX, htX⟩
                        have hbelX := below_own hbelq hbX
                        go_wp2
                        refine bodyPost_ret (v := .tuple #[.int .i64 2, .int .i64 k]) (by simp [results, Try.results9, go_sem]) rfl ⟨by rw [check_pair (c := 2) HX.out HM.out HZ.out hlt2 HR.out (by unfold pairF; rw [HU1.out, HU2.out, HU3.out, HC.out, HS.out] <;> rfl) (by decide)], hbelX⟩
              · have HU3 := Lib.hid hu3
                have hq := twin_run x.t z.t _ hu3
                clear hu3
                go_wp2_with fail
                apply region_cut (fun W' => Below wq.heap.size wq W' ∧ BoxT W' gT x)
                · intro hK'
                  refine region_plain (N := 19) rfl (by kernel_rfl) ?_
                  refine wpAny_ready (rs := [0]) (by kernel_rfl) (by simp) (AllReady.cons rfl (fun K hK => ?_) AllReady.nil)
                  go_simp
                  refine hK _ _ ?_
                  clear hK K
                  refine wpAny_ready (rs := [1]) (by kernel_rfl) (by simp) (AllReady.cons rfl (fun K hK => ?_) AllReady.nil)
                  go_simp
                  refine (hhas_any x _).mono ?_
                  rintro e w1 ⟨rfl, hb1⟩
                  rw [HU1.out]
                  have ho1 : Below wq.heap.size wq w1 := below_own (own_drew (own_refl _)) hb1
                  have t0_1 := cell_on ho1 t0
                  have t1_1 := cell_on ho1 t1
                  have t2_1 := cell_on ho1 t2
                  have t3_1 := cell_on ho1 t3
                  have t4_1 := cell_on ho1 t4
                  have t5_1 := cell_on ho1 t5
                  have t6_1 := cell_on ho1 t6
                  have t7_1 := cell_on ho1 t7
                  have z0_1 := cell_on ho1 z0
                  have z1_1 := cell_on ho1 z1
                  have z2_1 := cell_on ho1 z2
                  have z3_1 := cell_on ho1 z3
                  have z4_1 := cell_on ho1 z4
                  have z5_1 := cell_on ho1 z5
                  have z6_1 := cell_on ho1 z6
                  have z7_1 := cell_on ho1 z7
                  refine hK _ _ ?_
                  clear hK K
                  refine wpAny_take (i := 2) (v := .bool true) rfl (by kernel_rfl) (by kernel_rfl) (by kernel_rfl) (fun _ _ _ h => h) (Or.inl ⟨by kernel_rfl, fun W => by go_simp⟩) ?_
                  refine wpAny_take (i := 3) (v := .slice (some ⟨b, off, none⟩) n c) rfl (by kernel_rfl) (by kernel_rfl) (by kernel_rfl) (fun _ _ _ h => h) (Or.inl ⟨by kernel_rfl, fun W => by go_simp⟩) ?_
                  refine wpAny_take (i := 4) (v := .int .i64 m) rfl (by kernel_rfl) (by kernel_rfl) (by kernel_rfl) (fun _ _ _ h => h) (Or.inl ⟨by kernel_rfl, fun W => by go_simp⟩) ?_
                  refine wpAny_take (i := 5) (v := .pointer (some ⟨b, off + m * 8, none⟩)) rfl (by kernel_rfl) (by kernel_rfl) (by kernel_rfl) (fun _ _ _ h => h) (Or.inl ⟨by kernel_rfl, fun W => by go_simp⟩) ?_
                  refine wpAny_ready (rs := [6]) (by kernel_rfl) (by simp) (AllReady.cons rfl (fun K hK => ?_) AllReady.nil)
                  go_simp
                  refine hK _ _ ?_
                  clear hK K
                  refine wpAny_ready (rs := [7]) (by kernel_rfl) (by simp) (AllReady.cons rfl (fun K hK => ?_) AllReady.nil)
                  go_simp
                  refine (hhas_any z _).mono ?_
                  rintro e w2 ⟨rfl, hb2⟩
                  rw [HU2.out]
                  have ho2 : Below wq.heap.size wq w2 := below_own (ho1) hb2
                  have t0_2 := cell_on ho2 t0
                  have t1_2 := cell_on ho2 t1
                  have t2_2 := cell_on ho2 t2
                  have t3_2 := cell_on ho2 t3
                  have t4_2 := cell_on ho2 t4
                  have t5_2 := cell_on ho2 t5
                  have t6_2 := cell_on ho2 t6
                  have t7_2 := cell_on ho2 t7
                  have z0_2 := cell_on ho2 z0
                  have z1_2 := cell_on ho2 z1
                  have z2_2 := cell_on ho2 z2
                  have z3_2 := cell_on ho2 z3
                  have z4_2 := cell_on ho2 z4
                  have z5_2 := cell_on ho2 z5
                  have z6_2 := cell_on ho2 z6
                  have z7_2 := cell_on ho2 z7
                  refine hK _ _ ?_
                  clear hK K
                  refine wpAny_take (i := 8) (v := .bool true) rfl (by kernel_rfl) (by kernel_rfl) (by kernel_rfl) (fun _ _ _ h => h) (Or.inl ⟨by kernel_rfl, fun W => by go_simp⟩) ?_
                  refine wpAny_take (i := 9) (v := .bool true) rfl (by kernel_rfl) (by kernel_rfl) (by kernel_rfl) (fun _ _ _ h => h) (Or.inl ⟨by kernel_rfl, fun W => by go_simp⟩) ?_
                  refine wpAny_take (i := 10) (v := .pointer (some ⟨gT, 3, none⟩)) rfl (by kernel_rfl) (by kernel_rfl) (by kernel_rfl) (fun _ _ _ h => h) (Or.inl ⟨by kernel_rfl, fun W => by go_simp⟩) ?_
                  refine wpAny_take (i := 12) (v := .slice (some ⟨b, off, none⟩) n c) rfl (by kernel_rfl) (by kernel_rfl) (by kernel_rfl) (fun _ _ _ h => h) (Or.inl ⟨by kernel_rfl, fun W => by go_simp⟩) ?_
                  refine wpAny_take (i := 13) (v := .int .i64 m) rfl (by kernel_rfl) (by kernel_rfl) (by kernel_rfl) (fun _ _ _ h => h) (Or.inl ⟨by kernel_rfl, fun W => by go_simp⟩) ?_
                  refine wpAny_take (i := 14) (v := .pointer (some ⟨b, off + m * 8, none⟩)) rfl (by kernel_rfl) (by kernel_rfl) (by kernel_rfl) (fun _ _ _ h => h) (Or.inl ⟨by kernel_rfl, fun W => by go_simp⟩) ?_
                  refine wpAny_take (i := 15) (v := .pointer (some ⟨b, off + m * 8 + 3, none⟩)) rfl (by kernel_rfl) (by kernel_rfl) (by kernel_rfl) (fun _ _ _ h => h) (Or.inl ⟨by kernel_rfl, fun W => by go_simp⟩) ?_
                  refine wpAny_ready (rs := [11, 16]) (by kernel_rfl) (by simp) (AllReady.cons rfl (fun K hK => ?_) (AllReady.cons rfl (fun K hK => ?_) AllReady.nil))
                  · go_simp
                    refine hK _ _ ?_
                    clear hK K
                    refine wpAny_ready (rs := [16]) (by kernel_rfl) (by simp) (AllReady.cons rfl (fun K hK => ?_) AllReady.nil)
                    go_simp
                    refine hK _ _ ?_
                    clear hK K
                    refine wpAny_take (i := 17) (v := .bool true) rfl (by kernel_rfl) (by kernel_rfl) (by kernel_rfl) (fun _ _ _ h => h) (Or.inl ⟨by kernel_rfl, fun W => by go_simp⟩) ?_
                    refine wpAny_take (i := 18) (v := .bool true) rfl (by kernel_rfl) (by kernel_rfl) (by kernel_rfl) (fun _ _ _ h => h) (Or.inl ⟨by kernel_rfl, fun W => by go_simp⟩) ?_
                    refine wpAny_done (by kernel_rfl) ?_ _
                    simp only [onlyN]
                    go_simp
                    exact hK' _ ⟨ho2, htq.on (ho2)⟩
                  · go_simp
                    refine hK _ _ ?_
                    clear hK K
                    refine wpAny_ready (rs := [11]) (by kernel_rfl) (by simp) (AllReady.cons rfl (fun K hK => ?_) AllReady.nil)
                    go_simp
                    refine hK _ _ ?_
                    clear hK K
                    refine wpAny_take (i := 17) (v := .bool true) rfl (by kernel_rfl) (by kernel_rfl) (by kernel_rfl) (fun _ _ _ h => h) (Or.inl ⟨by kernel_rfl, fun W => by go_simp⟩) ?_
                    refine wpAny_take (i := 18) (v := .bool true) rfl (by kernel_rfl) (by kernel_rfl) (by kernel_rfl) (fun _ _ _ h => h) (Or.inl ⟨by kernel_rfl, fun W => by go_simp⟩) ?_
                    refine wpAny_done (by kernel_rfl) ?_ _
                    simp only [onlyN]
                    go_simp
                    exact hK' _ ⟨ho2, htq.on (ho2)⟩
                · intro wX ⟨hbX, htX⟩
                  have hbelX := below_own hbelq hbX
                  go_wp2
                  refine bodyPost_ret (v := .tuple #[.int .i64 1, .int .i64 k]) (by simp [results, Try.results9, go_sem]) rfl ⟨by rw [check_pair (c := 1) HX.out HM.out HZ.out hlt2 HR.out (pair_twin HU1.out HU2.out HU3.out) (by decide)], hbelX⟩
        · obtain rfl : m = k := by omega
          obtain ⟨⟨t0, t1, t2, t3, t4, t5, t6, t7⟩, -, -⟩ := id htq
          cases hu1 : x.t.has
          · have HU1 := Lib.hid hu1
            clear hu1
            have hst := Lib.hid (mark_none HX.out HM.out HR.out (by rw [HU1.out]; rfl))
            go_wp2_with (go_at_call 17; refine (hhas_any x _).mono ?_; rintro e wX ⟨rfl, hbX⟩; rw [HU1.out]; have hbelX := below_own hbelq hbX; have t0' := cell_on hbX t0; have t1' := cell_on hbX t1; have t2' := cell_on hbX t2; have t3' := cell_on hbX t3; have t4' := cell_on hbX t4; have t5' := cell_on hbX t5; have t6' := cell_on hbX t6; have t7' := cell_on hbX t7)
            go_roundw
            case rel => exact ⟨m + 1, by omega, by go_num, hst.out, hbelX⟩
            case measure => simp [intOf]; omega
          · have HU1 := Lib.hid hu1
            clear hu1
            cases hts : decide (x.t.ts ≤ x.t.sn)
            · have hst := Lib.hid (mark_none HX.out HM.out HR.out (by rw [HU1.out, hts]; rfl))
              go_wp2_with (go_at_call 17; refine (hhas_any x _).mono ?_; rintro e wX ⟨rfl, hbX⟩; rw [HU1.out]; have hbelX := below_own hbelq hbX; have t0' := cell_on hbX t0; have t1' := cell_on hbX t1; have t2' := cell_on hbX t2; have t3' := cell_on hbX t3; have t4' := cell_on hbX t4; have t5' := cell_on hbX t5; have t6' := cell_on hbX t6; have t7' := cell_on hbX t7)
              go_roundw
              case rel => exact ⟨m + 1, by omega, by go_num, hst.out, hbelX⟩
              case measure => simp [intOf]; omega
            · have hst := Lib.hid (check_own HX.out HM.out HR.out (by rw [HU1.out, hts]; rfl))
              go_wp2_with (go_at_call 17; refine (hhas_any x _).mono ?_; rintro e wX ⟨rfl, hbX⟩; rw [HU1.out]; have hbelX := below_own hbelq hbX; have t0' := cell_on hbX t0; have t1' := cell_on hbX t1; have t2' := cell_on hbX t2; have t3' := cell_on hbX t3; have t4' := cell_on hbX t4; have t5' := cell_on hbX t5; have t6' := cell_on hbX t6; have t7' := cell_on hbX t7)
              refine bodyPost_ret (v := .tuple #[.int .i64 2, .int .i64 m]) (by simp [results, Try.results9, go_sem]) rfl ⟨by rw [hst.out], hbelX⟩
    · obtain rfl : k = n := by omega
      have hmn : markF (l.map TI.t) (l.map TI.t).length = none := by rw [List.length_map, hn]; exact HM.out
      have HMN := Lib.hid hmn
      clear hmn
      go_wp2
      go_loopw [101] (fun q wr => ∃ (i : Nat), i ≤ k ∧ q = .int .i64 i ∧ readF (l.map TI.t) i = none ∧ Below w.heap.size w wr) (fun q _ => k - (intOf q).toNat)
      case atStart => exact ⟨0, Nat.zero_le _, rfl, rfl, hbel⟩
      case round =>
        clear hbel
        obtain ⟨i, hi, rfl, hrd, hbel⟩ := hrel
        have HRD := Lib.hid hrd
        clear hrd
        by_cases hlt : i < k
        · obtain ⟨x, hx⟩ : ∃ x, l[i]? = some x := ⟨_, List.getElem?_eq_getElem (by omega)⟩
          have HX := Lib.hid (show (l.map TI.t)[i]? = some x.t by rw [List.getElem?_map, hx]; rfl)
          have HXA := Lib.hid (hall x (List.mem_of_getElem? hx))
          have HALL := Lib.hid hall
          obtain ⟨b, off, hAe, x0, x1, x2, x3, x4, x5, x6, x7⟩ := get_tx (hA.on hbel) hx
          subst hAe
          have g3 : (0 : Int) ≤ (i : Int) := by omega
          have g4 : (i : Int) < (k : Int) := by omega
          clear hx hall
          go_wp2
          have hbel1 := own_alloc hbel (.cells #[.int .i64 x.t.cl, .int .u64 x.t.sn, .int .i64 x.t.st, .int .u64 x.t.ts, .int .i64 x.t.dc, .int .i64 x.t.tx, .slice x.R x.t.rds.length x.rc, .slice x.D x.t.wrs.length x.dc] 45)
          clear x0 x1 x2 x3 x4 x5 x6 x7 hbel
          go_loopw [109] (fun q wr => ∃ (m : Nat), m ≤ x.t.rds.length ∧ q = .int .i64 m ∧ (∀ j r, j < m → x.t.rds[j]? = some r → bad (l.map TI.t) i r = false) ∧ Below w.heap.size w wr) (fun q _ => x.t.rds.length - (intOf q).toNat)
          case atStart => exact ⟨0, Nat.zero_le _, rfl, fun _ _ h _ => absurd h (Nat.not_lt_zero _), hbel1⟩
          case round =>
            clear hbel1
            obtain ⟨m, hmm, rfl, hbad, hbel⟩ := hrel
            have HB := Lib.hid hbad
            clear hbad
            have hrfit := HXA.out.rfit
            by_cases hlt2 : m < x.t.rds.length
            · obtain ⟨r, hr⟩ : ∃ r, x.t.rds[m]? = some r := ⟨_, List.getElem?_eq_getElem hlt2⟩
              obtain ⟨rb, ro, hRe, r0, r1, r2, r3, r4, r5, r6, r7⟩ := get_rd (HXA.out.at'.r.on hbel) hr
              rw [hRe]
              have HRR := Lib.hid hr
              have next : bad (l.map TI.t) i r = false → ∀ j r, j < m + 1 → x.t.rds[j]? = some r → bad (l.map TI.t) i r = false := fun hb j r' hj hr' => by
                rcases Nat.lt_or_ge j m with c | c
                · exact HB.out j r' c hr'
                · obtain rfl : j = m := by omega
                  rw [hr] at hr'
                  injection hr' with e
                  exact e ▸ hb
              have NEXT := Lib.hid next
              clear hRe hr next
              obtain ⟨wn, hwn⟩ : ∃ wn, want (l.map TI.t) i r.key = wn := ⟨_, rfl⟩
              have HW := Lib.hid hwn
              clear hwn
              cases wn with
              | none =>
                cases hfd : r.fd
                · have hbd := Lib.hid (show bad (l.map TI.t) i r = false by unfold bad; rw [HW.out]; exact hfd)
                  rw [hfd] at r1
                  go_wp2_with (go_at_call 15; refine (hwant_any _ k c l _ hn ((hA.on hbel).on (own_alloc (own_refl _) _)) hm (fun x hx => ((HALL.out x hx).on hbel).on (own_alloc (own_refl _) _)) i r.key).mono ?_; rintro e w1 ⟨rfl, hb1⟩; rw [HW.out]; simp only [Option.getD_none, Option.isSome_none, V.v, v0]; have k0 : w1.cell? ⟨wr.heap.size, 0, none⟩ = some (.string r.key) := (box_on hb1).1 0; have k1 : w1.cell? ⟨wr.heap.size, 1, none⟩ = some (.bool false) := (box_on hb1).1 1; have k2 : w1.cell? ⟨wr.heap.size, 2, none⟩ = some (.string r.v.key) := (box_on hb1).1 2; have k3 : w1.cell? ⟨wr.heap.size, 3, none⟩ = some (.string r.v.val) := (box_on hb1).1 3; have k4 : w1.cell? ⟨wr.heap.size, 4, none⟩ = some (.bool r.v.gone) := (box_on hb1).1 4; have k5 : w1.cell? ⟨wr.heap.size, 5, none⟩ = some (.int .u64 r.v.ts) := (box_on hb1).1 5; have k6 : w1.cell? ⟨wr.heap.size, 6, none⟩ = some (.int .i64 r.v.dc) := (box_on hb1).1 6; have k7 : w1.cell? ⟨wr.heap.size, 7, none⟩ = some (.int .i64 r.v.tx) := (box_on hb1).1 7; have hbel1 : Below w.heap.size w w1 := below_own (own_alloc hbel _) hb1; have hsz := (box_on hb1).2.2)
                  go_roundw
                  case rel => exact ⟨m + 1, by omega, by go_num, NEXT.out hbd.out, own_alloc hbel1 _⟩
                  case measure => simp [intOf]; omega
                · have hbd := Lib.hid (show bad (l.map TI.t) i r = true by unfold bad; rw [HW.out]; exact hfd)
                  rw [hfd] at r1
                  go_wp2_with (go_at_call 15; refine (hwant_any _ k c l _ hn ((hA.on hbel).on (own_alloc (own_refl _) _)) hm (fun x hx => ((HALL.out x hx).on hbel).on (own_alloc (own_refl _) _)) i r.key).mono ?_; rintro e w1 ⟨rfl, hb1⟩; rw [HW.out]; simp only [Option.getD_none, Option.isSome_none, V.v, v0]; have k0 : w1.cell? ⟨wr.heap.size, 0, none⟩ = some (.string r.key) := (box_on hb1).1 0; have k1 : w1.cell? ⟨wr.heap.size, 1, none⟩ = some (.bool true) := (box_on hb1).1 1; have k2 : w1.cell? ⟨wr.heap.size, 2, none⟩ = some (.string r.v.key) := (box_on hb1).1 2; have k3 : w1.cell? ⟨wr.heap.size, 3, none⟩ = some (.string r.v.val) := (box_on hb1).1 3; have k4 : w1.cell? ⟨wr.heap.size, 4, none⟩ = some (.bool r.v.gone) := (box_on hb1).1 4; have k5 : w1.cell? ⟨wr.heap.size, 5, none⟩ = some (.int .u64 r.v.ts) := (box_on hb1).1 5; have k6 : w1.cell? ⟨wr.heap.size, 6, none⟩ = some (.int .i64 r.v.dc) := (box_on hb1).1 6; have k7 : w1.cell? ⟨wr.heap.size, 7, none⟩ = some (.int .i64 r.v.tx) := (box_on hb1).1 7; have hbel1 : Below w.heap.size w w1 := below_own (own_alloc hbel _) hb1; have hsz := (box_on hb1).2.2)
                  refine bodyPost_ret (v := .tuple #[.int .i64 3, .int .i64 i]) (by simp [results, Try.results9, go_sem]) rfl ⟨by rw [check_read HMN.out HRD.out HX.out HRR.out hbd.out], own_alloc hbel1 _⟩
              | some v =>
                cases hfd : r.fd
                · have hbd := Lib.hid (show bad (l.map TI.t) i r = true by unfold bad; rw [HW.out]; simp [hfd])
                  rw [hfd] at r1
                  go_wp2_with (go_at_call 15; refine (hwant_any _ k c l _ hn ((hA.on hbel).on (own_alloc (own_refl _) _)) hm (fun x hx => ((HALL.out x hx).on hbel).on (own_alloc (own_refl _) _)) i r.key).mono ?_; rintro e w1 ⟨rfl, hb1⟩; rw [HW.out]; simp only [Option.getD_some, Option.isSome_some, V.v]; have k0 : w1.cell? ⟨wr.heap.size, 0, none⟩ = some (.string r.key) := (box_on hb1).1 0; have k1 : w1.cell? ⟨wr.heap.size, 1, none⟩ = some (.bool false) := (box_on hb1).1 1; have k2 : w1.cell? ⟨wr.heap.size, 2, none⟩ = some (.string r.v.key) := (box_on hb1).1 2; have k3 : w1.cell? ⟨wr.heap.size, 3, none⟩ = some (.string r.v.val) := (box_on hb1).1 3; have k4 : w1.cell? ⟨wr.heap.size, 4, none⟩ = some (.bool r.v.gone) := (box_on hb1).1 4; have k5 : w1.cell? ⟨wr.heap.size, 5, none⟩ = some (.int .u64 r.v.ts) := (box_on hb1).1 5; have k6 : w1.cell? ⟨wr.heap.size, 6, none⟩ = some (.int .i64 r.v.dc) := (box_on hb1).1 6; have k7 : w1.cell? ⟨wr.heap.size, 7, none⟩ = some (.int .i64 r.v.tx) := (box_on hb1).1 7; have hbel1 : Below w.heap.size w w1 := below_own (own_alloc hbel _) hb1; have hsz := (box_on hb1).2.2)
                  refine bodyPost_ret (v := .tuple #[.int .i64 3, .int .i64 i]) (by simp [results, Try.results9, go_sem]) rfl ⟨by rw [check_read HMN.out HRD.out HX.out HRR.out hbd.out], own_alloc hbel1 _⟩
                · cases hve : veq v r.v
                  · have hbd := Lib.hid (show bad (l.map TI.t) i r = true by unfold bad; rw [HW.out]; simp [hve])
                    have hq := fun w => ver_neq v r.v w
                    rw [hve] at hq
                    rw [hfd] at r1
                    go_wp2_with (go_at_call 15; refine (hwant_any _ k c l _ hn ((hA.on hbel).on (own_alloc (own_refl _) _)) hm (fun x hx => ((HALL.out x hx).on hbel).on (own_alloc (own_refl _) _)) i r.key).mono ?_; rintro e w1 ⟨rfl, hb1⟩; rw [HW.out]; simp only [Option.getD_some, Option.isSome_some, V.v]; have k0 : w1.cell? ⟨wr.heap.size, 0, none⟩ = some (.string r.key) := (box_on hb1).1 0; have k1 : w1.cell? ⟨wr.heap.size, 1, none⟩ = some (.bool true) := (box_on hb1).1 1; have k2 : w1.cell? ⟨wr.heap.size, 2, none⟩ = some (.string r.v.key) := (box_on hb1).1 2; have k3 : w1.cell? ⟨wr.heap.size, 3, none⟩ = some (.string r.v.val) := (box_on hb1).1 3; have k4 : w1.cell? ⟨wr.heap.size, 4, none⟩ = some (.bool r.v.gone) := (box_on hb1).1 4; have k5 : w1.cell? ⟨wr.heap.size, 5, none⟩ = some (.int .u64 r.v.ts) := (box_on hb1).1 5; have k6 : w1.cell? ⟨wr.heap.size, 6, none⟩ = some (.int .i64 r.v.dc) := (box_on hb1).1 6; have k7 : w1.cell? ⟨wr.heap.size, 7, none⟩ = some (.int .i64 r.v.tx) := (box_on hb1).1 7; have hbel1 : Below w.heap.size w w1 := below_own (own_alloc hbel _) hb1; have hsz := (box_on hb1).2.2)
                    refine bodyPost_ret (v := .tuple #[.int .i64 3, .int .i64 i]) (by simp [results, Try.results9, go_sem]) rfl ⟨by rw [check_read HMN.out HRD.out HX.out HRR.out hbd.out], own_alloc hbel1 _⟩
                  · have hbd := Lib.hid (show bad (l.map TI.t) i r = false by unfold bad; rw [HW.out]; simp [hve, hfd])
                    have hq := fun w => ver_neq v r.v w
                    rw [hve] at hq
                    rw [hfd] at r1
                    go_wp2_with (go_at_call 15; refine (hwant_any _ k c l _ hn ((hA.on hbel).on (own_alloc (own_refl _) _)) hm (fun x hx => ((HALL.out x hx).on hbel).on (own_alloc (own_refl _) _)) i r.key).mono ?_; rintro e w1 ⟨rfl, hb1⟩; rw [HW.out]; simp only [Option.getD_some, Option.isSome_some, V.v]; have k0 : w1.cell? ⟨wr.heap.size, 0, none⟩ = some (.string r.key) := (box_on hb1).1 0; have k1 : w1.cell? ⟨wr.heap.size, 1, none⟩ = some (.bool true) := (box_on hb1).1 1; have k2 : w1.cell? ⟨wr.heap.size, 2, none⟩ = some (.string r.v.key) := (box_on hb1).1 2; have k3 : w1.cell? ⟨wr.heap.size, 3, none⟩ = some (.string r.v.val) := (box_on hb1).1 3; have k4 : w1.cell? ⟨wr.heap.size, 4, none⟩ = some (.bool r.v.gone) := (box_on hb1).1 4; have k5 : w1.cell? ⟨wr.heap.size, 5, none⟩ = some (.int .u64 r.v.ts) := (box_on hb1).1 5; have k6 : w1.cell? ⟨wr.heap.size, 6, none⟩ = some (.int .i64 r.v.dc) := (box_on hb1).1 6; have k7 : w1.cell? ⟨wr.heap.size, 7, none⟩ = some (.int .i64 r.v.tx) := (box_on hb1).1 7; have hbel1 : Below w.heap.size w w1 := below_own (own_alloc hbel _) hb1; have hsz := (box_on hb1).2.2)
                    go_roundw
                    case rel => exact ⟨m + 1, by omega, by go_num, NEXT.out hbd.out, own_alloc hbel1 _⟩
                    case measure => simp [intOf]; omega
            · obtain rfl : m = x.t.rds.length := by omega
              have hst := Lib.hid (read_none HRD.out HX.out HB.out)
              go_wp2
              go_roundw
              case rel => exact ⟨i + 1, by omega, by go_num, hst.out, hbel⟩
              case measure => simp [intOf]; omega
        · obtain rfl : i = k := by omega
          go_wp2
          refine bodyPost_ret (v := .tuple #[.int .i64 0, .int .i64 (-1)]) (by simp [results, Try.results9, go_sem]) rfl ⟨by rw [check_none HMN.out (by rw [List.length_map, hn]; exact HRD.out)], hbel⟩
end Go.Proofs.Ytiapolcpebilmaa
