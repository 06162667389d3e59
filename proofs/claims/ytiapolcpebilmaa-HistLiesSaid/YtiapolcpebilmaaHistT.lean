/-
  Who is committed, who sees whom: the program's walks and the answer's. Conditions: the history lies as the hypotheses say.
-/
import Derived.Test.YtiapolcpebilmaaHistP
import Derived.Test.YtiapolcpebilmaaMarkT
import Derived.Test.YtiapolcpebilmaaBridge
import Derived.Deep.RegionHeld3
import Derived.Deep.QuietTactic
import Derived.BigQuiet
import Derived.Outline
import Derived.Lib.Hide
import Derived.IntWalk
import Derived.BigRegion
namespace Go.Proofs.Ytiapolcpebilmaa
open Go.RowKit Go.ChangeShapes Go.WideShapes Go.Deep Go.Maps
set_option linter.unusedVariables false

theorem hhas_any (x : TI) (w : World) : Calls Try.prog 17 #[.agg #[.int .i64 x.t.cl, .int .u64 x.t.sn, .int .i64 x.t.st, .int .u64 x.t.ts, .int .i64 x.t.dc, .int .i64 x.t.tx, .slice x.R x.t.rds.length x.rc, .slice x.D x.t.wrs.length x.dc]] w fun e w' => e = .returned (.bool x.t.has) ∧ Below w.heap.size w w' := by
  by_cases h2 : x.t.st = 2
  · have e : x.t.has = true := by simp [Txn.has, h2]
    have d2 : (x.t.st == 2) = true := by simpa using h2
    rw [e]
    clear h2 e
    go_enter Try.func17, Try.ntmps17
    go_wp2
    go_ret
    exact ⟨rfl, own_alloc (own_refl _) _⟩
  · have d2 : (x.t.st == 2) = false := by simpa using h2
    by_cases h3 : x.t.st = 3
    · have e : x.t.has = true := by simp [Txn.has, h3]
      have d3 : (x.t.st == 3) = true := by simpa using h3
      rw [e]
      clear h2 h3 e
      go_enter Try.func17, Try.ntmps17
      go_wp2
      go_ret
      exact ⟨rfl, own_alloc (own_refl _) _⟩
    · have d3 : (x.t.st == 3) = false := by simpa using h3
      have e : x.t.has = false := by simp [Txn.has, d2, d3]
      rw [e]
      clear h2 h3 e
      go_enter Try.func17, Try.ntmps17
      go_wp2
      go_ret
      exact ⟨rfl, own_alloc (own_refl _) _⟩
theorem rhas_any (x : TI) (w : World) : Calls Try.prog 18 #[.agg #[.int .i64 x.t.cl, .int .u64 x.t.sn, .int .i64 x.t.st, .int .u64 x.t.ts, .int .i64 x.t.dc, .int .i64 x.t.tx, .slice x.R x.t.rds.length x.rc, .slice x.D x.t.wrs.length x.dc]] w fun e w' => e = .returned (.bool x.t.has) ∧ Below w.heap.size w w' := by
  by_cases h2 : x.t.st = 2
  · have e : x.t.has = true := by simp [Txn.has, h2]
    have d2 : (x.t.st == 2) = true := by simpa using h2
    rw [e]
    clear h2 e
    go_enter Try.func18, Try.ntmps18
    go_wp2
    go_ret
    exact ⟨rfl, own_alloc (own_refl _) _⟩
  · have d2 : (x.t.st == 2) = false := by simpa using h2
    by_cases h3 : x.t.st = 3
    · have e : x.t.has = true := by simp [Txn.has, h3]
      have d3 : (x.t.st == 3) = true := by simpa using h3
      rw [e]
      clear h2 h3 e
      go_enter Try.func18, Try.ntmps18
      go_wp2
      go_ret
      exact ⟨rfl, own_alloc (own_refl _) _⟩
    · have d3 : (x.t.st == 3) = false := by simpa using h3
      have e : x.t.has = false := by simp [Txn.has, d2, d3]
      rw [e]
      clear h2 h3 e
      go_enter Try.func18, Try.ntmps18
      go_wp2
      go_ret
      exact ⟨rfl, own_alloc (own_refl _) _⟩
set_option maxHeartbeats 1000000 in
theorem hsees_out (A : Option Addr) (n c : Nat) (i k : Int) (w : World) (h : ¬ (0 ≤ i ∧ i < (n : Int) ∧ 0 ≤ k ∧ k < (n : Int) ∧ i ≠ k)) :
    Calls Try.prog 13 #[.slice A n c, .int .i64 i, .int .i64 k] w fun e w' => e = .returned (.bool false) ∧ Below w.heap.size w w' := by
  by_cases h1 : i < 0
  · have d1 : decide (i < 0) = true := by simpa using h1
    clear h
    have _h := h1
    go_enter Try.func13, Try.ntmps13
    go_wp2
    go_ret
    exact ⟨rfl, own_refl _⟩
  · have d1 : decide (i < 0) = false := by simpa using h1
    have h1' : 0 ≤ i := by omega
    by_cases h2 : (n : Int) ≤ i
    · have d2 : decide ((n : Int) ≤ i) = true := by simpa using h2
      by_cases h3 : k < 0
      · have d3 : decide (k < 0) = true := by simpa using h3
        clear h
        have _h := h1
        go_enter Try.func13, Try.ntmps13
        go_wp2
        go_ret
        exact ⟨rfl, own_refl _⟩
      · have d3 : decide (k < 0) = false := by simpa using h3
        have h3' : 0 ≤ k := by omega
        clear h
        have _h := h1
        go_enter Try.func13, Try.ntmps13
        go_wp2
        go_ret
        exact ⟨rfl, own_refl _⟩
    · have d2 : decide ((n : Int) ≤ i) = false := by simpa using h2
      have h2' : i < (n : Int) := by omega
      by_cases h3 : k < 0
      · have d3 : decide (k < 0) = true := by simpa using h3
        clear h
        have _h := h1
        go_enter Try.func13, Try.ntmps13
        go_wp2
        go_ret
        exact ⟨rfl, own_refl _⟩
      · have d3 : decide (k < 0) = false := by simpa using h3
        have h3' : 0 ≤ k := by omega
        by_cases h4 : (n : Int) ≤ k
        · have d4 : decide ((n : Int) ≤ k) = true := by simpa using h4
          clear h
          have _h := h1
          go_enter Try.func13, Try.ntmps13
          go_wp2
          go_ret
          exact ⟨rfl, own_refl _⟩
        · have d4 : decide ((n : Int) ≤ k) = false := by simpa using h4
          have h4' : k < (n : Int) := by omega
          have h5 : i = k := by omega
          have d5 : (i == k) = true := by simpa using h5
          clear h
          subst h5
          have _h := h1
          go_enter Try.func13, Try.ntmps13
          go_wp2
          go_ret
          exact ⟨rfl, own_refl _⟩
set_option maxHeartbeats 1000000 in
theorem rsees_out (A : Option Addr) (n c : Nat) (i k : Int) (w : World) (h : ¬ (0 ≤ i ∧ i < (n : Int) ∧ 0 ≤ k ∧ k < (n : Int) ∧ i ≠ k)) :
    Calls Try.prog 14 #[.slice A n c, .int .i64 i, .int .i64 k] w fun e w' => e = .returned (.bool false) ∧ Below w.heap.size w w' := by
  by_cases h1 : i < 0
  · have d1 : decide (i < 0) = true := by simpa using h1
    clear h
    have _h := h1
    go_enter Try.func14, Try.ntmps14
    go_wp2
    go_ret
    exact ⟨rfl, own_refl _⟩
  · have d1 : decide (i < 0) = false := by simpa using h1
    have h1' : 0 ≤ i := by omega
    by_cases h2 : (n : Int) ≤ i
    · have d2 : decide ((n : Int) ≤ i) = true := by simpa using h2
      by_cases h3 : k < 0
      · have d3 : decide (k < 0) = true := by simpa using h3
        clear h
        have _h := h1
        go_enter Try.func14, Try.ntmps14
        go_wp2
        go_ret
        exact ⟨rfl, own_refl _⟩
      · have d3 : decide (k < 0) = false := by simpa using h3
        have h3' : 0 ≤ k := by omega
        clear h
        have _h := h1
        go_enter Try.func14, Try.ntmps14
        go_wp2
        go_ret
        exact ⟨rfl, own_refl _⟩
    · have d2 : decide ((n : Int) ≤ i) = false := by simpa using h2
      have h2' : i < (n : Int) := by omega
      by_cases h3 : k < 0
      · have d3 : decide (k < 0) = true := by simpa using h3
        clear h
        have _h := h1
        go_enter Try.func14, Try.ntmps14
        go_wp2
        go_ret
        exact ⟨rfl, own_refl _⟩
      · have d3 : decide (k < 0) = false := by simpa using h3
        have h3' : 0 ≤ k := by omega
        by_cases h4 : (n : Int) ≤ k
        · have d4 : decide ((n : Int) ≤ k) = true := by simpa using h4
          clear h
          have _h := h1
          go_enter Try.func14, Try.ntmps14
          go_wp2
          go_ret
          exact ⟨rfl, own_refl _⟩
        · have d4 : decide ((n : Int) ≤ k) = false := by simpa using h4
          have h4' : k < (n : Int) := by omega
          have h5 : i = k := by omega
          have d5 : (i == k) = true := by simpa using h5
          clear h
          subst h5
          have _h := h1
          go_enter Try.func14, Try.ntmps14
          go_wp2
          go_ret
          exact ⟨rfl, own_refl _⟩
set_option maxRecDepth 100000 in
set_option maxHeartbeats 4000000 in
theorem hsees_in (A : Option Addr) (n c : Nat) (l : List TI) (w : World) (hn : l.length = n) (hA : Cells w A (flatTI l)) (i k : Nat) (x z : TI) (hx : l[i]? = some x) (hz : l[k]? = some z) (hne : i ≠ k) :
    Calls Try.prog 13 #[.slice A n c, .int .i64 i, .int .i64 k] w fun e w' => e = .returned (.bool (seesN x.t z.t i k)) ∧ Below w.heap.size w w' := by
  obtain ⟨b, off, rfl, x0, x1, x2, x3, x4, x5, x6, x7⟩ := get_tx hA hx
  obtain ⟨b', off', hbo, z0, z1, z2, z3, z4, z5, z6, z7⟩ := get_tx hA hz
  obtain ⟨rfl, rfl⟩ : b = b' ∧ off = off' := by injection hbo with e; injection e with e1 e2; exact ⟨e1, e2⟩
  have hi := (List.getElem?_eq_some_iff.1 hx).1
  have hk := (List.getElem?_eq_some_iff.1 hz).1
  have q1 : (0 : Int) ≤ (i : Int) := by omega
  have q2 : (i : Int) < (n : Int) := by omega
  have q3 : (0 : Int) ≤ (k : Int) := by omega
  have q4 : (k : Int) < (n : Int) := by omega
  have q5 : ((i : Int) == (k : Int)) = false := by simp; omega
  have q6 : (i == k) = false := by simpa using hne
  have q7 : ¬ i = k := hne
  have d1 : decide ((i : Int) < 0) = false := by simp
  have d2 : decide ((n : Int) ≤ (i : Int)) = false := by simp; omega
  have d3 : decide ((k : Int) < 0) = false := by simp
  have d4 : decide ((n : Int) ≤ (k : Int)) = false := by simp; omega
  have d5 : decide (n ≤ i) = false := by simp; omega
  have d6 : decide (n ≤ k) = false := by simp; omega
  obtain ⟨u, hu⟩ : ∃ u, z.t.has = u := ⟨_, rfl⟩
  have HU := Lib.hid hu
  clear hbo hx hz hn hA hu hne
  cases u
  · have hs : seesN x.t z.t i k = false := by unfold seesN; rw [HU.out]; rfl
    rw [hs]
    clear hs
    go_enter Try.func13, Try.ntmps13
    go_wp2_with (go_at_call 17; refine (hhas_any z _).mono ?_; rintro e w2 ⟨rfl, hb2⟩; rw [HU.out])
    go_ret
    exact ⟨rfl, hb2⟩
  · by_cases h1 : z.t.ts ≤ x.t.sn
    · have a1 : decide (z.t.ts ≤ x.t.sn) = true := by simpa using h1
      have hs : seesN x.t z.t i k = true := by unfold seesN; rw [HU.out, a1]; rfl
      rw [hs]
      clear hs h1
      go_enter Try.func13, Try.ntmps13
      go_wp2_with (go_at_call 17; refine (hhas_any z _).mono ?_; rintro e w2 ⟨rfl, hb2⟩; rw [HU.out])
      have x0' : w2.cell? ⟨b, off + i * 8, none⟩ = some (.int .i64 x.t.cl) := cell_on hb2 x0
      have x1' : w2.cell? ⟨b, off + i * 8 + 1, none⟩ = some (.int .u64 x.t.sn) := cell_on hb2 x1
      have x2' : w2.cell? ⟨b, off + i * 8 + 2, none⟩ = some (.int .i64 x.t.st) := cell_on hb2 x2
      have x3' : w2.cell? ⟨b, off + i * 8 + 3, none⟩ = some (.int .u64 x.t.ts) := cell_on hb2 x3
      have x4' : w2.cell? ⟨b, off + i * 8 + 4, none⟩ = some (.int .i64 x.t.dc) := cell_on hb2 x4
      have x5' : w2.cell? ⟨b, off + i * 8 + 5, none⟩ = some (.int .i64 x.t.tx) := cell_on hb2 x5
      have x6' : w2.cell? ⟨b, off + i * 8 + 6, none⟩ = some (.slice x.R x.t.rds.length x.rc) := cell_on hb2 x6
      have x7' : w2.cell? ⟨b, off + i * 8 + 7, none⟩ = some (.slice x.D x.t.wrs.length x.dc) := cell_on hb2 x7
      have z0' : w2.cell? ⟨b, off + k * 8, none⟩ = some (.int .i64 z.t.cl) := cell_on hb2 z0
      have z1' : w2.cell? ⟨b, off + k * 8 + 1, none⟩ = some (.int .u64 z.t.sn) := cell_on hb2 z1
      have z2' : w2.cell? ⟨b, off + k * 8 + 2, none⟩ = some (.int .i64 z.t.st) := cell_on hb2 z2
      have z3' : w2.cell? ⟨b, off + k * 8 + 3, none⟩ = some (.int .u64 z.t.ts) := cell_on hb2 z3
      have z4' : w2.cell? ⟨b, off + k * 8 + 4, none⟩ = some (.int .i64 z.t.dc) := cell_on hb2 z4
      have z5' : w2.cell? ⟨b, off + k * 8 + 5, none⟩ = some (.int .i64 z.t.tx) := cell_on hb2 z5
      have z6' : w2.cell? ⟨b, off + k * 8 + 6, none⟩ = some (.slice z.R z.t.rds.length z.rc) := cell_on hb2 z6
      have z7' : w2.cell? ⟨b, off + k * 8 + 7, none⟩ = some (.slice z.D z.t.wrs.length z.dc) := cell_on hb2 z7
      go_quiet (fail)
      go_wp2
      go_ret
      exact ⟨rfl, own_drewN hb2 _⟩
    · have a1 : decide (z.t.ts ≤ x.t.sn) = false := by simpa using h1
      have a1' : x.t.sn < z.t.ts := by omega
      by_cases h2 : k < i
      · have a2 : decide (k < i) = true := by simpa using h2
        have a2' : decide ((k : Int) < (i : Int)) = true := by simpa using h2
        have a2'' : (k : Int) < (i : Int) := by omega
        by_cases h3 : z.t.cl = x.t.cl
        · have a3 : (z.t.cl == x.t.cl) = true := by simpa using h3
          have hs : seesN x.t z.t i k = true := by unfold seesN; rw [HU.out, a1, a2, a3]; rfl
          rw [hs]
          clear hs h1 h2 h3
          go_enter Try.func13, Try.ntmps13
          go_wp2_with (go_at_call 17; refine (hhas_any z _).mono ?_; rintro e w2 ⟨rfl, hb2⟩; rw [HU.out])
          have x0' : w2.cell? ⟨b, off + i * 8, none⟩ = some (.int .i64 x.t.cl) := cell_on hb2 x0
          have x1' : w2.cell? ⟨b, off + i * 8 + 1, none⟩ = some (.int .u64 x.t.sn) := cell_on hb2 x1
          have x2' : w2.cell? ⟨b, off + i * 8 + 2, none⟩ = some (.int .i64 x.t.st) := cell_on hb2 x2
          have x3' : w2.cell? ⟨b, off + i * 8 + 3, none⟩ = some (.int .u64 x.t.ts) := cell_on hb2 x3
          have x4' : w2.cell? ⟨b, off + i * 8 + 4, none⟩ = some (.int .i64 x.t.dc) := cell_on hb2 x4
          have x5' : w2.cell? ⟨b, off + i * 8 + 5, none⟩ = some (.int .i64 x.t.tx) := cell_on hb2 x5
          have x6' : w2.cell? ⟨b, off + i * 8 + 6, none⟩ = some (.slice x.R x.t.rds.length x.rc) := cell_on hb2 x6
          have x7' : w2.cell? ⟨b, off + i * 8 + 7, none⟩ = some (.slice x.D x.t.wrs.length x.dc) := cell_on hb2 x7
          have z0' : w2.cell? ⟨b, off + k * 8, none⟩ = some (.int .i64 z.t.cl) := cell_on hb2 z0
          have z1' : w2.cell? ⟨b, off + k * 8 + 1, none⟩ = some (.int .u64 z.t.sn) := cell_on hb2 z1
          have z2' : w2.cell? ⟨b, off + k * 8 + 2, none⟩ = some (.int .i64 z.t.st) := cell_on hb2 z2
          have z3' : w2.cell? ⟨b, off + k * 8 + 3, none⟩ = some (.int .u64 z.t.ts) := cell_on hb2 z3
          have z4' : w2.cell? ⟨b, off + k * 8 + 4, none⟩ = some (.int .i64 z.t.dc) := cell_on hb2 z4
          have z5' : w2.cell? ⟨b, off + k * 8 + 5, none⟩ = some (.int .i64 z.t.tx) := cell_on hb2 z5
          have z6' : w2.cell? ⟨b, off + k * 8 + 6, none⟩ = some (.slice z.R z.t.rds.length z.rc) := cell_on hb2 z6
          have z7' : w2.cell? ⟨b, off + k * 8 + 7, none⟩ = some (.slice z.D z.t.wrs.length z.dc) := cell_on hb2 z7
          go_quiet (fail)
          go_wp2
          go_ret
          exact ⟨rfl, own_drewN hb2 _⟩
        · have a3 : (z.t.cl == x.t.cl) = false := by simpa using h3
          have hs : seesN x.t z.t i k = false := by unfold seesN; rw [HU.out, a1, a2, a3]; rfl
          rw [hs]
          clear hs h1 h2 h3
          go_enter Try.func13, Try.ntmps13
          go_wp2_with (go_at_call 17; refine (hhas_any z _).mono ?_; rintro e w2 ⟨rfl, hb2⟩; rw [HU.out])
          have x0' : w2.cell? ⟨b, off + i * 8, none⟩ = some (.int .i64 x.t.cl) := cell_on hb2 x0
          have x1' : w2.cell? ⟨b, off + i * 8 + 1, none⟩ = some (.int .u64 x.t.sn) := cell_on hb2 x1
          have x2' : w2.cell? ⟨b, off + i * 8 + 2, none⟩ = some (.int .i64 x.t.st) := cell_on hb2 x2
          have x3' : w2.cell? ⟨b, off + i * 8 + 3, none⟩ = some (.int .u64 x.t.ts) := cell_on hb2 x3
          have x4' : w2.cell? ⟨b, off + i * 8 + 4, none⟩ = some (.int .i64 x.t.dc) := cell_on hb2 x4
          have x5' : w2.cell? ⟨b, off + i * 8 + 5, none⟩ = some (.int .i64 x.t.tx) := cell_on hb2 x5
          have x6' : w2.cell? ⟨b, off + i * 8 + 6, none⟩ = some (.slice x.R x.t.rds.length x.rc) := cell_on hb2 x6
          have x7' : w2.cell? ⟨b, off + i * 8 + 7, none⟩ = some (.slice x.D x.t.wrs.length x.dc) := cell_on hb2 x7
          have z0' : w2.cell? ⟨b, off + k * 8, none⟩ = some (.int .i64 z.t.cl) := cell_on hb2 z0
          have z1' : w2.cell? ⟨b, off + k * 8 + 1, none⟩ = some (.int .u64 z.t.sn) := cell_on hb2 z1
          have z2' : w2.cell? ⟨b, off + k * 8 + 2, none⟩ = some (.int .i64 z.t.st) := cell_on hb2 z2
          have z3' : w2.cell? ⟨b, off + k * 8 + 3, none⟩ = some (.int .u64 z.t.ts) := cell_on hb2 z3
          have z4' : w2.cell? ⟨b, off + k * 8 + 4, none⟩ = some (.int .i64 z.t.dc) := cell_on hb2 z4
          have z5' : w2.cell? ⟨b, off + k * 8 + 5, none⟩ = some (.int .i64 z.t.tx) := cell_on hb2 z5
          have z6' : w2.cell? ⟨b, off + k * 8 + 6, none⟩ = some (.slice z.R z.t.rds.length z.rc) := cell_on hb2 z6
          have z7' : w2.cell? ⟨b, off + k * 8 + 7, none⟩ = some (.slice z.D z.t.wrs.length z.dc) := cell_on hb2 z7
          go_quiet (fail)
          go_wp2
          go_ret
          exact ⟨rfl, own_drewN hb2 _⟩
      · have a2 : decide (k < i) = false := by simpa using h2
        have a2' : decide ((k : Int) < (i : Int)) = false := by simpa using h2
        have a2'' : ¬ (k : Int) < (i : Int) := by omega
        have hs : seesN x.t z.t i k = false := by unfold seesN; rw [HU.out, a1, a2]; rfl
        rw [hs]
        clear hs h1 h2
        go_enter Try.func13, Try.ntmps13
        go_wp2_with (go_at_call 17; refine (hhas_any z _).mono ?_; rintro e w2 ⟨rfl, hb2⟩; rw [HU.out])
        have x0' : w2.cell? ⟨b, off + i * 8, none⟩ = some (.int .i64 x.t.cl) := cell_on hb2 x0
        have x1' : w2.cell? ⟨b, off + i * 8 + 1, none⟩ = some (.int .u64 x.t.sn) := cell_on hb2 x1
        have x2' : w2.cell? ⟨b, off + i * 8 + 2, none⟩ = some (.int .i64 x.t.st) := cell_on hb2 x2
        have x3' : w2.cell? ⟨b, off + i * 8 + 3, none⟩ = some (.int .u64 x.t.ts) := cell_on hb2 x3
        have x4' : w2.cell? ⟨b, off + i * 8 + 4, none⟩ = some (.int .i64 x.t.dc) := cell_on hb2 x4
        have x5' : w2.cell? ⟨b, off + i * 8 + 5, none⟩ = some (.int .i64 x.t.tx) := cell_on hb2 x5
        have x6' : w2.cell? ⟨b, off + i * 8 + 6, none⟩ = some (.slice x.R x.t.rds.length x.rc) := cell_on hb2 x6
        have x7' : w2.cell? ⟨b, off + i * 8 + 7, none⟩ = some (.slice x.D x.t.wrs.length x.dc) := cell_on hb2 x7
        have z0' : w2.cell? ⟨b, off + k * 8, none⟩ = some (.int .i64 z.t.cl) := cell_on hb2 z0
        have z1' : w2.cell? ⟨b, off + k * 8 + 1, none⟩ = some (.int .u64 z.t.sn) := cell_on hb2 z1
        have z2' : w2.cell? ⟨b, off + k * 8 + 2, none⟩ = some (.int .i64 z.t.st) := cell_on hb2 z2
        have z3' : w2.cell? ⟨b, off + k * 8 + 3, none⟩ = some (.int .u64 z.t.ts) := cell_on hb2 z3
        have z4' : w2.cell? ⟨b, off + k * 8 + 4, none⟩ = some (.int .i64 z.t.dc) := cell_on hb2 z4
        have z5' : w2.cell? ⟨b, off + k * 8 + 5, none⟩ = some (.int .i64 z.t.tx) := cell_on hb2 z5
        have z6' : w2.cell? ⟨b, off + k * 8 + 6, none⟩ = some (.slice z.R z.t.rds.length z.rc) := cell_on hb2 z6
        have z7' : w2.cell? ⟨b, off + k * 8 + 7, none⟩ = some (.slice z.D z.t.wrs.length z.dc) := cell_on hb2 z7
        go_quiet (fail)
        go_wp2
        go_ret
        exact ⟨rfl, own_drewN hb2 _⟩

set_option maxRecDepth 100000 in
set_option maxHeartbeats 4000000 in
theorem rsees_in (A : Option Addr) (n c : Nat) (l : List TI) (w : World) (hn : l.length = n) (hA : Cells w A (flatTI l)) (i k : Nat) (x z : TI) (hx : l[i]? = some x) (hz : l[k]? = some z) (hne : i ≠ k) :
    Calls Try.prog 14 #[.slice A n c, .int .i64 i, .int .i64 k] w fun e w' => e = .returned (.bool (seesN x.t z.t i k)) ∧ Below w.heap.size w w' := by
  obtain ⟨b, off, rfl, x0, x1, x2, x3, x4, x5, x6, x7⟩ := get_tx hA hx
  obtain ⟨b', off', hbo, z0, z1, z2, z3, z4, z5, z6, z7⟩ := get_tx hA hz
  obtain ⟨rfl, rfl⟩ : b = b' ∧ off = off' := by injection hbo with e; injection e with e1 e2; exact ⟨e1, e2⟩
  have hi := (List.getElem?_eq_some_iff.1 hx).1
  have hk := (List.getElem?_eq_some_iff.1 hz).1
  have q1 : (0 : Int) ≤ (i : Int) := by omega
  have q2 : (i : Int) < (n : Int) := by omega
  have q3 : (0 : Int) ≤ (k : Int) := by omega
  have q4 : (k : Int) < (n : Int) := by omega
  have q5 : ((i : Int) == (k : Int)) = false := by simp; omega
  have q6 : (i == k) = false := by simpa using hne
  have q7 : ¬ i = k := hne
  have d1 : decide ((i : Int) < 0) = false := by simp
  have d2 : decide ((n : Int) ≤ (i : Int)) = false := by simp; omega
  have d3 : decide ((k : Int) < 0) = false := by simp
  have d4 : decide ((n : Int) ≤ (k : Int)) = false := by simp; omega
  have d5 : decide (n ≤ i) = false := by simp; omega
  have d6 : decide (n ≤ k) = false := by simp; omega
  obtain ⟨u, hu⟩ : ∃ u, z.t.has = u := ⟨_, rfl⟩
  have HU := Lib.hid hu
  clear hbo hx hz hn hA hu hne
  cases u
  · have hs : seesN x.t z.t i k = false := by unfold seesN; rw [HU.out]; rfl
    rw [hs]
    clear hs
    go_enter Try.func14, Try.ntmps14
    go_wp2_with fail
    refine region_plain (N := 38) rfl (by kernel_rfl) ?_
    refine wpAny_take (i := 0) (v := .slice (some ⟨b, off, none⟩) n c) rfl (by kernel_rfl) (by kernel_rfl) (by kernel_rfl) (fun _ _ _ h => h) (Or.inl ⟨by kernel_rfl, fun W => by go_simp⟩) ?_
    refine wpAny_take (i := 1) (v := .int .i64 k) rfl (by kernel_rfl) (by kernel_rfl) (by kernel_rfl) (fun _ _ _ h => h) (Or.inl ⟨by kernel_rfl, fun W => by go_simp⟩) ?_
    refine wpAny_take (i := 2) (v := .pointer (some ⟨b, off + k * 8, none⟩)) rfl (by kernel_rfl) (by kernel_rfl) (by kernel_rfl) (fun _ _ _ h => h) (Or.inl ⟨by kernel_rfl, fun W => by go_simp⟩) ?_
    refine wpAny_ready (rs := [3]) (by kernel_rfl) (by simp) (AllReady.cons rfl (fun K hK => ?_) AllReady.nil)
    go_simp
    refine hK _ _ ?_
    clear hK K
    refine wpAny_ready (rs := [4]) (by kernel_rfl) (by simp) (AllReady.cons rfl (fun K hK => ?_) AllReady.nil)
    go_simp
    refine (rhas_any z _).mono ?_
    rintro e w2 ⟨rfl, hb2⟩
    rw [HU.out]
    refine hK _ _ ?_
    clear hK K
    refine wpAny_take (i := 5) (v := .bool false) rfl (by kernel_rfl) (by kernel_rfl) (by kernel_rfl) (fun _ _ _ h => h) (Or.inl ⟨by kernel_rfl, fun W => by go_simp⟩) ?_
    refine wpAny_take (i := 6) (v := undef) rfl (by kernel_rfl) (by kernel_rfl) (by kernel_rfl) (fun _ _ _ h => h) (Or.inr ⟨by kernel_rfl, rfl⟩) ?_
    refine wpAny_take (i := 7) (v := undef) rfl (by kernel_rfl) (by kernel_rfl) (by kernel_rfl) (fun _ _ _ h => h) (Or.inr ⟨by kernel_rfl, rfl⟩) ?_
    refine wpAny_take (i := 8) (v := undef) rfl (by kernel_rfl) (by kernel_rfl) (by kernel_rfl) (fun _ _ _ h => h) (Or.inr ⟨by kernel_rfl, rfl⟩) ?_
    refine wpAny_take (i := 9) (v := undef) rfl (by kernel_rfl) (by kernel_rfl) (by kernel_rfl) (fun _ _ _ h => h) (Or.inr ⟨by kernel_rfl, rfl⟩) ?_
    refine wpAny_take (i := 10) (v := undef) rfl (by kernel_rfl) (by kernel_rfl) (by kernel_rfl) (fun _ _ _ h => h) (Or.inr ⟨by kernel_rfl, rfl⟩) ?_
    refine wpAny_take (i := 11) (v := undef) rfl (by kernel_rfl) (by kernel_rfl) (by kernel_rfl) (fun _ _ _ h => h) (Or.inr ⟨by kernel_rfl, rfl⟩) ?_
    refine wpAny_take (i := 12) (v := undef) rfl (by kernel_rfl) (by kernel_rfl) (by kernel_rfl) (fun _ _ _ h => h) (Or.inr ⟨by kernel_rfl, rfl⟩) ?_
    refine wpAny_take (i := 13) (v := undef) rfl (by kernel_rfl) (by kernel_rfl) (by kernel_rfl) (fun _ _ _ h => h) (Or.inr ⟨by kernel_rfl, rfl⟩) ?_
    refine wpAny_take (i := 14) (v := undef) rfl (by kernel_rfl) (by kernel_rfl) (by kernel_rfl) (fun _ _ _ h => h) (Or.inr ⟨by kernel_rfl, rfl⟩) ?_
    refine wpAny_take (i := 15) (v := undef) rfl (by kernel_rfl) (by kernel_rfl) (by kernel_rfl) (fun _ _ _ h => h) (Or.inr ⟨by kernel_rfl, rfl⟩) ?_
    refine wpAny_take (i := 16) (v := undef) rfl (by kernel_rfl) (by kernel_rfl) (by kernel_rfl) (fun _ _ _ h => h) (Or.inr ⟨by kernel_rfl, rfl⟩) ?_
    refine wpAny_take (i := 17) (v := undef) rfl (by kernel_rfl) (by kernel_rfl) (by kernel_rfl) (fun _ _ _ h => h) (Or.inr ⟨by kernel_rfl, rfl⟩) ?_
    refine wpAny_take (i := 18) (v := undef) rfl (by kernel_rfl) (by kernel_rfl) (by kernel_rfl) (fun _ _ _ h => h) (Or.inr ⟨by kernel_rfl, rfl⟩) ?_
    refine wpAny_take (i := 19) (v := undef) rfl (by kernel_rfl) (by kernel_rfl) (by kernel_rfl) (fun _ _ _ h => h) (Or.inr ⟨by kernel_rfl, rfl⟩) ?_
    refine wpAny_take (i := 20) (v := undef) rfl (by kernel_rfl) (by kernel_rfl) (by kernel_rfl) (fun _ _ _ h => h) (Or.inr ⟨by kernel_rfl, rfl⟩) ?_
    refine wpAny_take (i := 21) (v := undef) rfl (by kernel_rfl) (by kernel_rfl) (by kernel_rfl) (fun _ _ _ h => h) (Or.inr ⟨by kernel_rfl, rfl⟩) ?_
    refine wpAny_take (i := 22) (v := undef) rfl (by kernel_rfl) (by kernel_rfl) (by kernel_rfl) (fun _ _ _ h => h) (Or.inr ⟨by kernel_rfl, rfl⟩) ?_
    refine wpAny_take (i := 23) (v := undef) rfl (by kernel_rfl) (by kernel_rfl) (by kernel_rfl) (fun _ _ _ h => h) (Or.inr ⟨by kernel_rfl, rfl⟩) ?_
    refine wpAny_take (i := 24) (v := undef) rfl (by kernel_rfl) (by kernel_rfl) (by kernel_rfl) (fun _ _ _ h => h) (Or.inr ⟨by kernel_rfl, rfl⟩) ?_
    refine wpAny_take (i := 25) (v := undef) rfl (by kernel_rfl) (by kernel_rfl) (by kernel_rfl) (fun _ _ _ h => h) (Or.inr ⟨by kernel_rfl, rfl⟩) ?_
    refine wpAny_take (i := 26) (v := undef) rfl (by kernel_rfl) (by kernel_rfl) (by kernel_rfl) (fun _ _ _ h => h) (Or.inr ⟨by kernel_rfl, rfl⟩) ?_
    refine wpAny_take (i := 27) (v := undef) rfl (by kernel_rfl) (by kernel_rfl) (by kernel_rfl) (fun _ _ _ h => h) (Or.inr ⟨by kernel_rfl, rfl⟩) ?_
    refine wpAny_take (i := 28) (v := undef) rfl (by kernel_rfl) (by kernel_rfl) (by kernel_rfl) (fun _ _ _ h => h) (Or.inr ⟨by kernel_rfl, rfl⟩) ?_
    refine wpAny_take (i := 29) (v := undef) rfl (by kernel_rfl) (by kernel_rfl) (by kernel_rfl) (fun _ _ _ h => h) (Or.inr ⟨by kernel_rfl, rfl⟩) ?_
    refine wpAny_take (i := 30) (v := undef) rfl (by kernel_rfl) (by kernel_rfl) (by kernel_rfl) (fun _ _ _ h => h) (Or.inr ⟨by kernel_rfl, rfl⟩) ?_
    refine wpAny_take (i := 31) (v := undef) rfl (by kernel_rfl) (by kernel_rfl) (by kernel_rfl) (fun _ _ _ h => h) (Or.inr ⟨by kernel_rfl, rfl⟩) ?_
    refine wpAny_take (i := 32) (v := undef) rfl (by kernel_rfl) (by kernel_rfl) (by kernel_rfl) (fun _ _ _ h => h) (Or.inr ⟨by kernel_rfl, rfl⟩) ?_
    refine wpAny_take (i := 33) (v := undef) rfl (by kernel_rfl) (by kernel_rfl) (by kernel_rfl) (fun _ _ _ h => h) (Or.inr ⟨by kernel_rfl, rfl⟩) ?_
    refine wpAny_take (i := 34) (v := undef) rfl (by kernel_rfl) (by kernel_rfl) (by kernel_rfl) (fun _ _ _ h => h) (Or.inr ⟨by kernel_rfl, rfl⟩) ?_
    refine wpAny_take (i := 35) (v := undef) rfl (by kernel_rfl) (by kernel_rfl) (by kernel_rfl) (fun _ _ _ h => h) (Or.inr ⟨by kernel_rfl, rfl⟩) ?_
    refine wpAny_take (i := 36) (v := .bool false) rfl (by kernel_rfl) (by kernel_rfl) (by kernel_rfl) (fun _ _ _ h => h) (Or.inl ⟨by kernel_rfl, fun W => by go_simp⟩) ?_
    refine wpAny_take (i := 37) (v := .bool false) rfl (by kernel_rfl) (by kernel_rfl) (by kernel_rfl) (fun _ _ _ h => h) (Or.inl ⟨by kernel_rfl, fun W => by go_simp⟩) ?_
    refine wpAny_done (by kernel_rfl) ?_ _
    simp only [onlyN]
    go_wp2
    go_ret
    exact ⟨by kernel_rfl, below_own (own_drew (own_refl _)) hb2⟩
  · by_cases h1 : z.t.ts ≤ x.t.sn
    · have a1 : decide (z.t.ts ≤ x.t.sn) = true := by simpa using h1
      have hs : seesN x.t z.t i k = true := by unfold seesN; rw [HU.out, a1]; rfl
      rw [hs]
      clear hs h1
      go_enter Try.func14, Try.ntmps14
      go_wp2_with fail
      refine region_plain (N := 38) rfl (by kernel_rfl) ?_
      refine wpAny_take (i := 0) (v := .slice (some ⟨b, off, none⟩) n c) rfl (by kernel_rfl) (by kernel_rfl) (by kernel_rfl) (fun _ _ _ h => h) (Or.inl ⟨by kernel_rfl, fun W => by go_simp⟩) ?_
      refine wpAny_take (i := 1) (v := .int .i64 k) rfl (by kernel_rfl) (by kernel_rfl) (by kernel_rfl) (fun _ _ _ h => h) (Or.inl ⟨by kernel_rfl, fun W => by go_simp⟩) ?_
      refine wpAny_take (i := 2) (v := .pointer (some ⟨b, off + k * 8, none⟩)) rfl (by kernel_rfl) (by kernel_rfl) (by kernel_rfl) (fun _ _ _ h => h) (Or.inl ⟨by kernel_rfl, fun W => by go_simp⟩) ?_
      refine wpAny_ready (rs := [3]) (by kernel_rfl) (by simp) (AllReady.cons rfl (fun K hK => ?_) AllReady.nil)
      go_simp
      refine hK _ _ ?_
      clear hK K
      refine wpAny_ready (rs := [4]) (by kernel_rfl) (by simp) (AllReady.cons rfl (fun K hK => ?_) AllReady.nil)
      go_simp
      refine (rhas_any z _).mono ?_
      rintro e w2 ⟨rfl, hb2⟩
      rw [HU.out]
      have hbw : Below w.heap.size w w2 := below_own (own_drew (own_refl _)) hb2
      have x0' : w2.cell? ⟨b, off + i * 8, none⟩ = some (.int .i64 x.t.cl) := cell_on hbw x0
      have x1' : w2.cell? ⟨b, off + i * 8 + 1, none⟩ = some (.int .u64 x.t.sn) := cell_on hbw x1
      have x2' : w2.cell? ⟨b, off + i * 8 + 2, none⟩ = some (.int .i64 x.t.st) := cell_on hbw x2
      have x3' : w2.cell? ⟨b, off + i * 8 + 3, none⟩ = some (.int .u64 x.t.ts) := cell_on hbw x3
      have x4' : w2.cell? ⟨b, off + i * 8 + 4, none⟩ = some (.int .i64 x.t.dc) := cell_on hbw x4
      have x5' : w2.cell? ⟨b, off + i * 8 + 5, none⟩ = some (.int .i64 x.t.tx) := cell_on hbw x5
      have x6' : w2.cell? ⟨b, off + i * 8 + 6, none⟩ = some (.slice x.R x.t.rds.length x.rc) := cell_on hbw x6
      have x7' : w2.cell? ⟨b, off + i * 8 + 7, none⟩ = some (.slice x.D x.t.wrs.length x.dc) := cell_on hbw x7
      have z0' : w2.cell? ⟨b, off + k * 8, none⟩ = some (.int .i64 z.t.cl) := cell_on hbw z0
      have z1' : w2.cell? ⟨b, off + k * 8 + 1, none⟩ = some (.int .u64 z.t.sn) := cell_on hbw z1
      have z2' : w2.cell? ⟨b, off + k * 8 + 2, none⟩ = some (.int .i64 z.t.st) := cell_on hbw z2
      have z3' : w2.cell? ⟨b, off + k * 8 + 3, none⟩ = some (.int .u64 z.t.ts) := cell_on hbw z3
      have z4' : w2.cell? ⟨b, off + k * 8 + 4, none⟩ = some (.int .i64 z.t.dc) := cell_on hbw z4
      have z5' : w2.cell? ⟨b, off + k * 8 + 5, none⟩ = some (.int .i64 z.t.tx) := cell_on hbw z5
      have z6' : w2.cell? ⟨b, off + k * 8 + 6, none⟩ = some (.slice z.R z.t.rds.length z.rc) := cell_on hbw z6
      have z7' : w2.cell? ⟨b, off + k * 8 + 7, none⟩ = some (.slice z.D z.t.wrs.length z.dc) := cell_on hbw z7
      refine hK _ _ ?_
      clear hK K
      refine wpAny_take (i := 5) (v := .bool true) rfl (by kernel_rfl) (by kernel_rfl) (by kernel_rfl) (fun _ _ _ h => h) (Or.inl ⟨by kernel_rfl, fun W => by go_simp⟩) ?_
      refine wpAny_take (i := 6) (v := .slice (some ⟨b, off, none⟩) n c) rfl (by kernel_rfl) (by kernel_rfl) (by kernel_rfl) (fun _ _ _ h => h) (Or.inl ⟨by kernel_rfl, fun W => by go_simp⟩) ?_
      refine wpAny_take (i := 7) (v := .int .i64 k) rfl (by kernel_rfl) (by kernel_rfl) (by kernel_rfl) (fun _ _ _ h => h) (Or.inl ⟨by kernel_rfl, fun W => by go_simp⟩) ?_
      refine wpAny_take (i := 8) (v := .pointer (some ⟨b, off + k * 8, none⟩)) rfl (by kernel_rfl) (by kernel_rfl) (by kernel_rfl) (fun _ _ _ h => h) (Or.inl ⟨by kernel_rfl, fun W => by go_simp⟩) ?_
      refine wpAny_take (i := 9) (v := .pointer (some ⟨b, off + k * 8 + 3, none⟩)) rfl (by kernel_rfl) (by kernel_rfl) (by kernel_rfl) (fun _ _ _ h => h) (Or.inl ⟨by kernel_rfl, fun W => by go_simp⟩) ?_
      refine wpAny_take (i := 10) (v := .pointer (some ⟨b, off + k * 8 + 3, none⟩)) rfl (by kernel_rfl) (by kernel_rfl) (by kernel_rfl) (fun _ _ _ h => h) (Or.inl ⟨by kernel_rfl, fun W => by go_simp⟩) ?_
      refine wpAny_take (i := 12) (v := .slice (some ⟨b, off, none⟩) n c) rfl (by kernel_rfl) (by kernel_rfl) (by kernel_rfl) (fun _ _ _ h => h) (Or.inl ⟨by kernel_rfl, fun W => by go_simp⟩) ?_
      refine wpAny_take (i := 13) (v := .int .i64 i) rfl (by kernel_rfl) (by kernel_rfl) (by kernel_rfl) (fun _ _ _ h => h) (Or.inl ⟨by kernel_rfl, fun W => by go_simp⟩) ?_
      refine wpAny_take (i := 14) (v := .pointer (some ⟨b, off + i * 8, none⟩)) rfl (by kernel_rfl) (by kernel_rfl) (by kernel_rfl) (fun _ _ _ h => h) (Or.inl ⟨by kernel_rfl, fun W => by go_simp⟩) ?_
      refine wpAny_take (i := 15) (v := .pointer (some ⟨b, off + i * 8 + 1, none⟩)) rfl (by kernel_rfl) (by kernel_rfl) (by kernel_rfl) (fun _ _ _ h => h) (Or.inl ⟨by kernel_rfl, fun W => by go_simp⟩) ?_
      refine wpAny_ready (rs := [11, 16]) (by kernel_rfl) (by simp) (AllReady.cons rfl (fun K hK => ?_) (AllReady.cons rfl (fun K hK => ?_) AllReady.nil))
      · go_simp
        refine hK _ _ ?_
        clear hK K
        refine wpAny_ready (rs := [16]) (by kernel_rfl) (by simp) (AllReady.cons rfl (fun K hK => ?_) AllReady.nil)
        go_simp
        refine hK _ _ ?_
        clear hK K
        refine wpAny_take (i := 17) (v := .bool true) rfl (by kernel_rfl) (by kernel_rfl) (by kernel_rfl) (fun _ _ _ h => h) (Or.inl ⟨by kernel_rfl, fun W => by go_simp⟩) ?_
        refine wpAny_take (i := 18) (v := .bool true) rfl (by kernel_rfl) (by kernel_rfl) (by kernel_rfl) (fun _ _ _ h => h) (Or.inl ⟨by kernel_rfl, fun W => by go_simp⟩) ?_
        refine wpAny_take (i := 19) (v := undef) rfl (by kernel_rfl) (by kernel_rfl) (by kernel_rfl) (fun _ _ _ h => h) (Or.inr ⟨by kernel_rfl, rfl⟩) ?_
        refine wpAny_take (i := 20) (v := undef) rfl (by kernel_rfl) (by kernel_rfl) (by kernel_rfl) (fun _ _ _ h => h) (Or.inr ⟨by kernel_rfl, rfl⟩) ?_
        refine wpAny_take (i := 21) (v := undef) rfl (by kernel_rfl) (by kernel_rfl) (by kernel_rfl) (fun _ _ _ h => h) (Or.inr ⟨by kernel_rfl, rfl⟩) ?_
        refine wpAny_take (i := 22) (v := undef) rfl (by kernel_rfl) (by kernel_rfl) (by kernel_rfl) (fun _ _ _ h => h) (Or.inr ⟨by kernel_rfl, rfl⟩) ?_
        refine wpAny_take (i := 23) (v := undef) rfl (by kernel_rfl) (by kernel_rfl) (by kernel_rfl) (fun _ _ _ h => h) (Or.inr ⟨by kernel_rfl, rfl⟩) ?_
        refine wpAny_take (i := 24) (v := undef) rfl (by kernel_rfl) (by kernel_rfl) (by kernel_rfl) (fun _ _ _ h => h) (Or.inr ⟨by kernel_rfl, rfl⟩) ?_
        refine wpAny_take (i := 25) (v := undef) rfl (by kernel_rfl) (by kernel_rfl) (by kernel_rfl) (fun _ _ _ h => h) (Or.inr ⟨by kernel_rfl, rfl⟩) ?_
        refine wpAny_take (i := 26) (v := undef) rfl (by kernel_rfl) (by kernel_rfl) (by kernel_rfl) (fun _ _ _ h => h) (Or.inr ⟨by kernel_rfl, rfl⟩) ?_
        refine wpAny_take (i := 27) (v := undef) rfl (by kernel_rfl) (by kernel_rfl) (by kernel_rfl) (fun _ _ _ h => h) (Or.inr ⟨by kernel_rfl, rfl⟩) ?_
        refine wpAny_take (i := 28) (v := undef) rfl (by kernel_rfl) (by kernel_rfl) (by kernel_rfl) (fun _ _ _ h => h) (Or.inr ⟨by kernel_rfl, rfl⟩) ?_
        refine wpAny_take (i := 29) (v := undef) rfl (by kernel_rfl) (by kernel_rfl) (by kernel_rfl) (fun _ _ _ h => h) (Or.inr ⟨by kernel_rfl, rfl⟩) ?_
        refine wpAny_take (i := 30) (v := undef) rfl (by kernel_rfl) (by kernel_rfl) (by kernel_rfl) (fun _ _ _ h => h) (Or.inr ⟨by kernel_rfl, rfl⟩) ?_
        refine wpAny_take (i := 31) (v := undef) rfl (by kernel_rfl) (by kernel_rfl) (by kernel_rfl) (fun _ _ _ h => h) (Or.inr ⟨by kernel_rfl, rfl⟩) ?_
        refine wpAny_take (i := 32) (v := undef) rfl (by kernel_rfl) (by kernel_rfl) (by kernel_rfl) (fun _ _ _ h => h) (Or.inr ⟨by kernel_rfl, rfl⟩) ?_
        refine wpAny_take (i := 33) (v := undef) rfl (by kernel_rfl) (by kernel_rfl) (by kernel_rfl) (fun _ _ _ h => h) (Or.inr ⟨by kernel_rfl, rfl⟩) ?_
        refine wpAny_take (i := 34) (v := undef) rfl (by kernel_rfl) (by kernel_rfl) (by kernel_rfl) (fun _ _ _ h => h) (Or.inr ⟨by kernel_rfl, rfl⟩) ?_
        refine wpAny_take (i := 35) (v := .bool true) rfl (by kernel_rfl) (by kernel_rfl) (by kernel_rfl) (fun _ _ _ h => h) (Or.inl ⟨by kernel_rfl, fun W => by go_simp⟩) ?_
        refine wpAny_take (i := 36) (v := .bool true) rfl (by kernel_rfl) (by kernel_rfl) (by kernel_rfl) (fun _ _ _ h => h) (Or.inl ⟨by kernel_rfl, fun W => by go_simp⟩) ?_
        refine wpAny_take (i := 37) (v := .bool true) rfl (by kernel_rfl) (by kernel_rfl) (by kernel_rfl) (fun _ _ _ h => h) (Or.inl ⟨by kernel_rfl, fun W => by go_simp⟩) ?_
        refine wpAny_done (by kernel_rfl) ?_ _
        simp only [onlyN]
        go_wp2
        go_ret
        exact ⟨by kernel_rfl, hbw⟩
      · go_simp
        refine hK _ _ ?_
        clear hK K
        refine wpAny_ready (rs := [11]) (by kernel_rfl) (by simp) (AllReady.cons rfl (fun K hK => ?_) AllReady.nil)
        go_simp
        refine hK _ _ ?_
        clear hK K
        refine wpAny_take (i := 17) (v := .bool true) rfl (by kernel_rfl) (by kernel_rfl) (by kernel_rfl) (fun _ _ _ h => h) (Or.inl ⟨by kernel_rfl, fun W => by go_simp⟩) ?_
        refine wpAny_take (i := 18) (v := .bool true) rfl (by kernel_rfl) (by kernel_rfl) (by kernel_rfl) (fun _ _ _ h => h) (Or.inl ⟨by kernel_rfl, fun W => by go_simp⟩) ?_
        refine wpAny_take (i := 19) (v := undef) rfl (by kernel_rfl) (by kernel_rfl) (by kernel_rfl) (fun _ _ _ h => h) (Or.inr ⟨by kernel_rfl, rfl⟩) ?_
        refine wpAny_take (i := 20) (v := undef) rfl (by kernel_rfl) (by kernel_rfl) (by kernel_rfl) (fun _ _ _ h => h) (Or.inr ⟨by kernel_rfl, rfl⟩) ?_
        refine wpAny_take (i := 21) (v := undef) rfl (by kernel_rfl) (by kernel_rfl) (by kernel_rfl) (fun _ _ _ h => h) (Or.inr ⟨by kernel_rfl, rfl⟩) ?_
        refine wpAny_take (i := 22) (v := undef) rfl (by kernel_rfl) (by kernel_rfl) (by kernel_rfl) (fun _ _ _ h => h) (Or.inr ⟨by kernel_rfl, rfl⟩) ?_
        refine wpAny_take (i := 23) (v := undef) rfl (by kernel_rfl) (by kernel_rfl) (by kernel_rfl) (fun _ _ _ h => h) (Or.inr ⟨by kernel_rfl, rfl⟩) ?_
        refine wpAny_take (i := 24) (v := undef) rfl (by kernel_rfl) (by kernel_rfl) (by kernel_rfl) (fun _ _ _ h => h) (Or.inr ⟨by kernel_rfl, rfl⟩) ?_
        refine wpAny_take (i := 25) (v := undef) rfl (by kernel_rfl) (by kernel_rfl) (by kernel_rfl) (fun _ _ _ h => h) (Or.inr ⟨by kernel_rfl, rfl⟩) ?_
        refine wpAny_take (i := 26) (v := undef) rfl (by kernel_rfl) (by kernel_rfl) (by kernel_rfl) (fun _ _ _ h => h) (Or.inr ⟨by kernel_rfl, rfl⟩) ?_
        refine wpAny_take (i := 27) (v := undef) rfl (by kernel_rfl) (by kernel_rfl) (by kernel_rfl) (fun _ _ _ h => h) (Or.inr ⟨by kernel_rfl, rfl⟩) ?_
        refine wpAny_take (i := 28) (v := undef) rfl (by kernel_rfl) (by kernel_rfl) (by kernel_rfl) (fun _ _ _ h => h) (Or.inr ⟨by kernel_rfl, rfl⟩) ?_
        refine wpAny_take (i := 29) (v := undef) rfl (by kernel_rfl) (by kernel_rfl) (by kernel_rfl) (fun _ _ _ h => h) (Or.inr ⟨by kernel_rfl, rfl⟩) ?_
        refine wpAny_take (i := 30) (v := undef) rfl (by kernel_rfl) (by kernel_rfl) (by kernel_rfl) (fun _ _ _ h => h) (Or.inr ⟨by kernel_rfl, rfl⟩) ?_
        refine wpAny_take (i := 31) (v := undef) rfl (by kernel_rfl) (by kernel_rfl) (by kernel_rfl) (fun _ _ _ h => h) (Or.inr ⟨by kernel_rfl, rfl⟩) ?_
        refine wpAny_take (i := 32) (v := undef) rfl (by kernel_rfl) (by kernel_rfl) (by kernel_rfl) (fun _ _ _ h => h) (Or.inr ⟨by kernel_rfl, rfl⟩) ?_
        refine wpAny_take (i := 33) (v := undef) rfl (by kernel_rfl) (by kernel_rfl) (by kernel_rfl) (fun _ _ _ h => h) (Or.inr ⟨by kernel_rfl, rfl⟩) ?_
        refine wpAny_take (i := 34) (v := undef) rfl (by kernel_rfl) (by kernel_rfl) (by kernel_rfl) (fun _ _ _ h => h) (Or.inr ⟨by kernel_rfl, rfl⟩) ?_
        refine wpAny_take (i := 35) (v := .bool true) rfl (by kernel_rfl) (by kernel_rfl) (by kernel_rfl) (fun _ _ _ h => h) (Or.inl ⟨by kernel_rfl, fun W => by go_simp⟩) ?_
        refine wpAny_take (i := 36) (v := .bool true) rfl (by kernel_rfl) (by kernel_rfl) (by kernel_rfl) (fun _ _ _ h => h) (Or.inl ⟨by kernel_rfl, fun W => by go_simp⟩) ?_
        refine wpAny_take (i := 37) (v := .bool true) rfl (by kernel_rfl) (by kernel_rfl) (by kernel_rfl) (fun _ _ _ h => h) (Or.inl ⟨by kernel_rfl, fun W => by go_simp⟩) ?_
        refine wpAny_done (by kernel_rfl) ?_ _
        simp only [onlyN]
        go_wp2
        go_ret
        exact ⟨by kernel_rfl, hbw⟩
    · have a1 : decide (z.t.ts ≤ x.t.sn) = false := by simpa using h1
      have a1' : x.t.sn < z.t.ts := by omega
      by_cases h2 : k < i
      · have a2 : decide (k < i) = true := by simpa using h2
        have a2' : decide ((k : Int) < (i : Int)) = true := by simpa using h2
        have a2'' : (k : Int) < (i : Int) := by omega
        by_cases h3 : z.t.cl = x.t.cl
        · have a3 : (z.t.cl == x.t.cl) = true := by simpa using h3
          have hs : seesN x.t z.t i k = true := by unfold seesN; rw [HU.out, a1, a2, a3]; rfl
          rw [hs]
          clear hs h1 h2 h3
          go_enter Try.func14, Try.ntmps14
          go_wp2_with fail
          first
            | (go_region_held3 (fun w' => Below w.heap.size w w' ∧ w'.cell? ⟨b, off + i * 8, none⟩ = some (.int .i64 x.t.cl) ∧ w'.cell? ⟨b, off + i * 8 + 1, none⟩ = some (.int .u64 x.t.sn) ∧ w'.cell? ⟨b, off + i * 8 + 2, none⟩ = some (.int .i64 x.t.st) ∧ w'.cell? ⟨b, off + i * 8 + 3, none⟩ = some (.int .u64 x.t.ts) ∧ w'.cell? ⟨b, off + i * 8 + 4, none⟩ = some (.int .i64 x.t.dc) ∧ w'.cell? ⟨b, off + i * 8 + 5, none⟩ = some (.int .i64 x.t.tx) ∧ w'.cell? ⟨b, off + i * 8 + 6, none⟩ = some (.slice x.R x.t.rds.length x.rc) ∧ w'.cell? ⟨b, off + i * 8 + 7, none⟩ = some (.slice x.D x.t.wrs.length x.dc) ∧ w'.cell? ⟨b, off + k * 8, none⟩ = some (.int .i64 z.t.cl) ∧ w'.cell? ⟨b, off + k * 8 + 1, none⟩ = some (.int .u64 z.t.sn) ∧ w'.cell? ⟨b, off + k * 8 + 2, none⟩ = some (.int .i64 z.t.st) ∧ w'.cell? ⟨b, off + k * 8 + 3, none⟩ = some (.int .u64 z.t.ts) ∧ w'.cell? ⟨b, off + k * 8 + 4, none⟩ = some (.int .i64 z.t.dc) ∧ w'.cell? ⟨b, off + k * 8 + 5, none⟩ = some (.int .i64 z.t.tx) ∧ w'.cell? ⟨b, off + k * 8 + 6, none⟩ = some (.slice z.R z.t.rds.length z.rc) ∧ w'.cell? ⟨b, off + k * 8 + 7, none⟩ = some (.slice z.D z.t.wrs.length z.dc))
            (first | exact ⟨own_drew (own_refl _), x0, x1, x2, x3, x4, x5, x6, x7, z0, z1, z2, z3, z4, z5, z6, z7⟩ | (refine ⟨own_drew (own_refl _), ?_, ?_, ?_, ?_, ?_, ?_, ?_, ?_, ?_, ?_, ?_, ?_, ?_, ?_, ?_, ?_⟩ <;> (go_simp; done)) | (go_split_ands; refine ⟨below_own (by assumption) (by assumption), ?_, ?_, ?_, ?_, ?_, ?_, ?_, ?_, ?_, ?_, ?_, ?_, ?_, ?_, ?_, ?_⟩ <;> exact cell_on (by assumption) (by assumption)))
            ((go_at_call 18; refine (rhas_any z _).mono ?_; rintro e w2 ⟨rfl, hb2⟩; rw [HU.out])))
            | fail
          rename_i hSS
          have hb3 := hSS.1
          clear hSS
          go_wp2
          go_ret
          exact ⟨rfl, hb3⟩
        · have a3 : (z.t.cl == x.t.cl) = false := by simpa using h3
          have hs : seesN x.t z.t i k = false := by unfold seesN; rw [HU.out, a1, a2, a3]; rfl
          rw [hs]
          clear hs h1 h2 h3
          go_enter Try.func14, Try.ntmps14
          go_wp2_with fail
          first
            | (go_region_held3 (fun w' => Below w.heap.size w w' ∧ w'.cell? ⟨b, off + i * 8, none⟩ = some (.int .i64 x.t.cl) ∧ w'.cell? ⟨b, off + i * 8 + 1, none⟩ = some (.int .u64 x.t.sn) ∧ w'.cell? ⟨b, off + i * 8 + 2, none⟩ = some (.int .i64 x.t.st) ∧ w'.cell? ⟨b, off + i * 8 + 3, none⟩ = some (.int .u64 x.t.ts) ∧ w'.cell? ⟨b, off + i * 8 + 4, none⟩ = some (.int .i64 x.t.dc) ∧ w'.cell? ⟨b, off + i * 8 + 5, none⟩ = some (.int .i64 x.t.tx) ∧ w'.cell? ⟨b, off + i * 8 + 6, none⟩ = some (.slice x.R x.t.rds.length x.rc) ∧ w'.cell? ⟨b, off + i * 8 + 7, none⟩ = some (.slice x.D x.t.wrs.length x.dc) ∧ w'.cell? ⟨b, off + k * 8, none⟩ = some (.int .i64 z.t.cl) ∧ w'.cell? ⟨b, off + k * 8 + 1, none⟩ = some (.int .u64 z.t.sn) ∧ w'.cell? ⟨b, off + k * 8 + 2, none⟩ = some (.int .i64 z.t.st) ∧ w'.cell? ⟨b, off + k * 8 + 3, none⟩ = some (.int .u64 z.t.ts) ∧ w'.cell? ⟨b, off + k * 8 + 4, none⟩ = some (.int .i64 z.t.dc) ∧ w'.cell? ⟨b, off + k * 8 + 5, none⟩ = some (.int .i64 z.t.tx) ∧ w'.cell? ⟨b, off + k * 8 + 6, none⟩ = some (.slice z.R z.t.rds.length z.rc) ∧ w'.cell? ⟨b, off + k * 8 + 7, none⟩ = some (.slice z.D z.t.wrs.length z.dc))
            (first | exact ⟨own_drew (own_refl _), x0, x1, x2, x3, x4, x5, x6, x7, z0, z1, z2, z3, z4, z5, z6, z7⟩ | (refine ⟨own_drew (own_refl _), ?_, ?_, ?_, ?_, ?_, ?_, ?_, ?_, ?_, ?_, ?_, ?_, ?_, ?_, ?_, ?_⟩ <;> (go_simp; done)) | (go_split_ands; refine ⟨below_own (by assumption) (by assumption), ?_, ?_, ?_, ?_, ?_, ?_, ?_, ?_, ?_, ?_, ?_, ?_, ?_, ?_, ?_, ?_⟩ <;> exact cell_on (by assumption) (by assumption)))
            ((go_at_call 18; refine (rhas_any z _).mono ?_; rintro e w2 ⟨rfl, hb2⟩; rw [HU.out])))
            | fail
          rename_i hSS
          have hb3 := hSS.1
          clear hSS
          go_wp2
          go_ret
          exact ⟨rfl, hb3⟩
      · have a2 : decide (k < i) = false := by simpa using h2
        have a2' : decide ((k : Int) < (i : Int)) = false := by simpa using h2
        have a2'' : ¬ (k : Int) < (i : Int) := by omega
        have hs : seesN x.t z.t i k = false := by unfold seesN; rw [HU.out, a1, a2]; rfl
        rw [hs]
        clear hs h1 h2
        go_enter Try.func14, Try.ntmps14
        go_wp2_with fail
        refine region_plain (N := 38) rfl (by kernel_rfl) ?_
        refine wpAny_take (i := 0) (v := .slice (some ⟨b, off, none⟩) n c) rfl (by kernel_rfl) (by kernel_rfl) (by kernel_rfl) (fun _ _ _ h => h) (Or.inl ⟨by kernel_rfl, fun W => by go_simp⟩) ?_
        refine wpAny_take (i := 1) (v := .int .i64 k) rfl (by kernel_rfl) (by kernel_rfl) (by kernel_rfl) (fun _ _ _ h => h) (Or.inl ⟨by kernel_rfl, fun W => by go_simp⟩) ?_
        refine wpAny_take (i := 2) (v := .pointer (some ⟨b, off + k * 8, none⟩)) rfl (by kernel_rfl) (by kernel_rfl) (by kernel_rfl) (fun _ _ _ h => h) (Or.inl ⟨by kernel_rfl, fun W => by go_simp⟩) ?_
        refine wpAny_ready (rs := [3]) (by kernel_rfl) (by simp) (AllReady.cons rfl (fun K hK => ?_) AllReady.nil)
        go_simp
        refine hK _ _ ?_
        clear hK K
        refine wpAny_ready (rs := [4]) (by kernel_rfl) (by simp) (AllReady.cons rfl (fun K hK => ?_) AllReady.nil)
        go_simp
        refine (rhas_any z _).mono ?_
        rintro e w2 ⟨rfl, hb2⟩
        rw [HU.out]
        have hbw : Below w.heap.size w w2 := below_own (own_drew (own_refl _)) hb2
        have x0' : w2.cell? ⟨b, off + i * 8, none⟩ = some (.int .i64 x.t.cl) := cell_on hbw x0
        have x1' : w2.cell? ⟨b, off + i * 8 + 1, none⟩ = some (.int .u64 x.t.sn) := cell_on hbw x1
        have x2' : w2.cell? ⟨b, off + i * 8 + 2, none⟩ = some (.int .i64 x.t.st) := cell_on hbw x2
        have x3' : w2.cell? ⟨b, off + i * 8 + 3, none⟩ = some (.int .u64 x.t.ts) := cell_on hbw x3
        have x4' : w2.cell? ⟨b, off + i * 8 + 4, none⟩ = some (.int .i64 x.t.dc) := cell_on hbw x4
        have x5' : w2.cell? ⟨b, off + i * 8 + 5, none⟩ = some (.int .i64 x.t.tx) := cell_on hbw x5
        have x6' : w2.cell? ⟨b, off + i * 8 + 6, none⟩ = some (.slice x.R x.t.rds.length x.rc) := cell_on hbw x6
        have x7' : w2.cell? ⟨b, off + i * 8 + 7, none⟩ = some (.slice x.D x.t.wrs.length x.dc) := cell_on hbw x7
        have z0' : w2.cell? ⟨b, off + k * 8, none⟩ = some (.int .i64 z.t.cl) := cell_on hbw z0
        have z1' : w2.cell? ⟨b, off + k * 8 + 1, none⟩ = some (.int .u64 z.t.sn) := cell_on hbw z1
        have z2' : w2.cell? ⟨b, off + k * 8 + 2, none⟩ = some (.int .i64 z.t.st) := cell_on hbw z2
        have z3' : w2.cell? ⟨b, off + k * 8 + 3, none⟩ = some (.int .u64 z.t.ts) := cell_on hbw z3
        have z4' : w2.cell? ⟨b, off + k * 8 + 4, none⟩ = some (.int .i64 z.t.dc) := cell_on hbw z4
        have z5' : w2.cell? ⟨b, off + k * 8 + 5, none⟩ = some (.int .i64 z.t.tx) := cell_on hbw z5
        have z6' : w2.cell? ⟨b, off + k * 8 + 6, none⟩ = some (.slice z.R z.t.rds.length z.rc) := cell_on hbw z6
        have z7' : w2.cell? ⟨b, off + k * 8 + 7, none⟩ = some (.slice z.D z.t.wrs.length z.dc) := cell_on hbw z7
        refine hK _ _ ?_
        clear hK K
        refine wpAny_take (i := 5) (v := .bool true) rfl (by kernel_rfl) (by kernel_rfl) (by kernel_rfl) (fun _ _ _ h => h) (Or.inl ⟨by kernel_rfl, fun W => by go_simp⟩) ?_
        refine wpAny_take (i := 6) (v := .slice (some ⟨b, off, none⟩) n c) rfl (by kernel_rfl) (by kernel_rfl) (by kernel_rfl) (fun _ _ _ h => h) (Or.inl ⟨by kernel_rfl, fun W => by go_simp⟩) ?_
        refine wpAny_take (i := 7) (v := .int .i64 k) rfl (by kernel_rfl) (by kernel_rfl) (by kernel_rfl) (fun _ _ _ h => h) (Or.inl ⟨by kernel_rfl, fun W => by go_simp⟩) ?_
        refine wpAny_take (i := 8) (v := .pointer (some ⟨b, off + k * 8, none⟩)) rfl (by kernel_rfl) (by kernel_rfl) (by kernel_rfl) (fun _ _ _ h => h) (Or.inl ⟨by kernel_rfl, fun W => by go_simp⟩) ?_
        refine wpAny_take (i := 9) (v := .pointer (some ⟨b, off + k * 8 + 3, none⟩)) rfl (by kernel_rfl) (by kernel_rfl) (by kernel_rfl) (fun _ _ _ h => h) (Or.inl ⟨by kernel_rfl, fun W => by go_simp⟩) ?_
        refine wpAny_take (i := 10) (v := .pointer (some ⟨b, off + k * 8 + 3, none⟩)) rfl (by kernel_rfl) (by kernel_rfl) (by kernel_rfl) (fun _ _ _ h => h) (Or.inl ⟨by kernel_rfl, fun W => by go_simp⟩) ?_
        refine wpAny_take (i := 12) (v := .slice (some ⟨b, off, none⟩) n c) rfl (by kernel_rfl) (by kernel_rfl) (by kernel_rfl) (fun _ _ _ h => h) (Or.inl ⟨by kernel_rfl, fun W => by go_simp⟩) ?_
        refine wpAny_take (i := 13) (v := .int .i64 i) rfl (by kernel_rfl) (by kernel_rfl) (by kernel_rfl) (fun _ _ _ h => h) (Or.inl ⟨by kernel_rfl, fun W => by go_simp⟩) ?_
        refine wpAny_take (i := 14) (v := .pointer (some ⟨b, off + i * 8, none⟩)) rfl (by kernel_rfl) (by kernel_rfl) (by kernel_rfl) (fun _ _ _ h => h) (Or.inl ⟨by kernel_rfl, fun W => by go_simp⟩) ?_
        refine wpAny_take (i := 15) (v := .pointer (some ⟨b, off + i * 8 + 1, none⟩)) rfl (by kernel_rfl) (by kernel_rfl) (by kernel_rfl) (fun _ _ _ h => h) (Or.inl ⟨by kernel_rfl, fun W => by go_simp⟩) ?_
        refine wpAny_ready (rs := [11, 16]) (by kernel_rfl) (by simp) (AllReady.cons rfl (fun K hK => ?_) (AllReady.cons rfl (fun K hK => ?_) AllReady.nil))
        · go_simp
          refine hK _ _ ?_
          clear hK K
          refine wpAny_ready (rs := [16]) (by kernel_rfl) (by simp) (AllReady.cons rfl (fun K hK => ?_) AllReady.nil)
          go_simp
          refine hK _ _ ?_
          clear hK K
          refine wpAny_take (i := 17) (v := .bool false) rfl (by kernel_rfl) (by kernel_rfl) (by kernel_rfl) (fun _ _ _ h => h) (Or.inl ⟨by kernel_rfl, fun W => by go_simp⟩) ?_
          refine wpAny_take (i := 18) (v := .bool false) rfl (by kernel_rfl) (by kernel_rfl) (by kernel_rfl) (fun _ _ _ h => h) (Or.inl ⟨by kernel_rfl, fun W => by go_simp⟩) ?_
          refine wpAny_take (i := 19) (v := .int .i64 k) rfl (by kernel_rfl) (by kernel_rfl) (by kernel_rfl) (fun _ _ _ h => h) (Or.inl ⟨by kernel_rfl, fun W => by go_simp⟩) ?_
          refine wpAny_take (i := 20) (v := .int .i64 i) rfl (by kernel_rfl) (by kernel_rfl) (by kernel_rfl) (fun _ _ _ h => h) (Or.inl ⟨by kernel_rfl, fun W => by go_simp⟩) ?_
          refine wpAny_take (i := 21) (v := .bool false) rfl (by kernel_rfl) (by kernel_rfl) (by kernel_rfl) (fun _ _ _ h => h) (Or.inl ⟨by kernel_rfl, fun W => by go_simp⟩) ?_
          refine wpAny_take (i := 22) (v := .bool false) rfl (by kernel_rfl) (by kernel_rfl) (by kernel_rfl) (fun _ _ _ h => h) (Or.inl ⟨by kernel_rfl, fun W => by go_simp⟩) ?_
          refine wpAny_take (i := 23) (v := undef) rfl (by kernel_rfl) (by kernel_rfl) (by kernel_rfl) (fun _ _ _ h => h) (Or.inr ⟨by kernel_rfl, rfl⟩) ?_
          refine wpAny_take (i := 24) (v := undef) rfl (by kernel_rfl) (by kernel_rfl) (by kernel_rfl) (fun _ _ _ h => h) (Or.inr ⟨by kernel_rfl, rfl⟩) ?_
          refine wpAny_take (i := 25) (v := undef) rfl (by kernel_rfl) (by kernel_rfl) (by kernel_rfl) (fun _ _ _ h => h) (Or.inr ⟨by kernel_rfl, rfl⟩) ?_
          refine wpAny_take (i := 26) (v := undef) rfl (by kernel_rfl) (by kernel_rfl) (by kernel_rfl) (fun _ _ _ h => h) (Or.inr ⟨by kernel_rfl, rfl⟩) ?_
          refine wpAny_take (i := 27) (v := undef) rfl (by kernel_rfl) (by kernel_rfl) (by kernel_rfl) (fun _ _ _ h => h) (Or.inr ⟨by kernel_rfl, rfl⟩) ?_
          refine wpAny_take (i := 28) (v := undef) rfl (by kernel_rfl) (by kernel_rfl) (by kernel_rfl) (fun _ _ _ h => h) (Or.inr ⟨by kernel_rfl, rfl⟩) ?_
          refine wpAny_take (i := 29) (v := undef) rfl (by kernel_rfl) (by kernel_rfl) (by kernel_rfl) (fun _ _ _ h => h) (Or.inr ⟨by kernel_rfl, rfl⟩) ?_
          refine wpAny_take (i := 30) (v := undef) rfl (by kernel_rfl) (by kernel_rfl) (by kernel_rfl) (fun _ _ _ h => h) (Or.inr ⟨by kernel_rfl, rfl⟩) ?_
          refine wpAny_take (i := 31) (v := undef) rfl (by kernel_rfl) (by kernel_rfl) (by kernel_rfl) (fun _ _ _ h => h) (Or.inr ⟨by kernel_rfl, rfl⟩) ?_
          refine wpAny_take (i := 32) (v := undef) rfl (by kernel_rfl) (by kernel_rfl) (by kernel_rfl) (fun _ _ _ h => h) (Or.inr ⟨by kernel_rfl, rfl⟩) ?_
          refine wpAny_take (i := 33) (v := undef) rfl (by kernel_rfl) (by kernel_rfl) (by kernel_rfl) (fun _ _ _ h => h) (Or.inr ⟨by kernel_rfl, rfl⟩) ?_
          refine wpAny_take (i := 34) (v := .bool false) rfl (by kernel_rfl) (by kernel_rfl) (by kernel_rfl) (fun _ _ _ h => h) (Or.inl ⟨by kernel_rfl, fun W => by go_simp⟩) ?_
          refine wpAny_take (i := 35) (v := .bool false) rfl (by kernel_rfl) (by kernel_rfl) (by kernel_rfl) (fun _ _ _ h => h) (Or.inl ⟨by kernel_rfl, fun W => by go_simp⟩) ?_
          refine wpAny_take (i := 36) (v := .bool false) rfl (by kernel_rfl) (by kernel_rfl) (by kernel_rfl) (fun _ _ _ h => h) (Or.inl ⟨by kernel_rfl, fun W => by go_simp⟩) ?_
          refine wpAny_take (i := 37) (v := .bool false) rfl (by kernel_rfl) (by kernel_rfl) (by kernel_rfl) (fun _ _ _ h => h) (Or.inl ⟨by kernel_rfl, fun W => by go_simp⟩) ?_
          refine wpAny_done (by kernel_rfl) ?_ _
          simp only [onlyN]
          go_wp2
          go_ret
          exact ⟨by kernel_rfl, hbw⟩
        · go_simp
          refine hK _ _ ?_
          clear hK K
          refine wpAny_ready (rs := [11]) (by kernel_rfl) (by simp) (AllReady.cons rfl (fun K hK => ?_) AllReady.nil)
          go_simp
          refine hK _ _ ?_
          clear hK K
          refine wpAny_take (i := 17) (v := .bool false) rfl (by kernel_rfl) (by kernel_rfl) (by kernel_rfl) (fun _ _ _ h => h) (Or.inl ⟨by kernel_rfl, fun W => by go_simp⟩) ?_
          refine wpAny_take (i := 18) (v := .bool false) rfl (by kernel_rfl) (by kernel_rfl) (by kernel_rfl) (fun _ _ _ h => h) (Or.inl ⟨by kernel_rfl, fun W => by go_simp⟩) ?_
          refine wpAny_take (i := 19) (v := .int .i64 k) rfl (by kernel_rfl) (by kernel_rfl) (by kernel_rfl) (fun _ _ _ h => h) (Or.inl ⟨by kernel_rfl, fun W => by go_simp⟩) ?_
          refine wpAny_take (i := 20) (v := .int .i64 i) rfl (by kernel_rfl) (by kernel_rfl) (by kernel_rfl) (fun _ _ _ h => h) (Or.inl ⟨by kernel_rfl, fun W => by go_simp⟩) ?_
          refine wpAny_take (i := 21) (v := .bool false) rfl (by kernel_rfl) (by kernel_rfl) (by kernel_rfl) (fun _ _ _ h => h) (Or.inl ⟨by kernel_rfl, fun W => by go_simp⟩) ?_
          refine wpAny_take (i := 22) (v := .bool false) rfl (by kernel_rfl) (by kernel_rfl) (by kernel_rfl) (fun _ _ _ h => h) (Or.inl ⟨by kernel_rfl, fun W => by go_simp⟩) ?_
          refine wpAny_take (i := 23) (v := undef) rfl (by kernel_rfl) (by kernel_rfl) (by kernel_rfl) (fun _ _ _ h => h) (Or.inr ⟨by kernel_rfl, rfl⟩) ?_
          refine wpAny_take (i := 24) (v := undef) rfl (by kernel_rfl) (by kernel_rfl) (by kernel_rfl) (fun _ _ _ h => h) (Or.inr ⟨by kernel_rfl, rfl⟩) ?_
          refine wpAny_take (i := 25) (v := undef) rfl (by kernel_rfl) (by kernel_rfl) (by kernel_rfl) (fun _ _ _ h => h) (Or.inr ⟨by kernel_rfl, rfl⟩) ?_
          refine wpAny_take (i := 26) (v := undef) rfl (by kernel_rfl) (by kernel_rfl) (by kernel_rfl) (fun _ _ _ h => h) (Or.inr ⟨by kernel_rfl, rfl⟩) ?_
          refine wpAny_take (i := 27) (v := undef) rfl (by kernel_rfl) (by kernel_rfl) (by kernel_rfl) (fun _ _ _ h => h) (Or.inr ⟨by kernel_rfl, rfl⟩) ?_
          refine wpAny_take (i := 28) (v := undef) rfl (by kernel_rfl) (by kernel_rfl) (by kernel_rfl) (fun _ _ _ h => h) (Or.inr ⟨by kernel_rfl, rfl⟩) ?_
          refine wpAny_take (i := 29) (v := undef) rfl (by kernel_rfl) (by kernel_rfl) (by kernel_rfl) (fun _ _ _ h => h) (Or.inr ⟨by kernel_rfl, rfl⟩) ?_
          refine wpAny_take (i := 30) (v := undef) rfl (by kernel_rfl) (by kernel_rfl) (by kernel_rfl) (fun _ _ _ h => h) (Or.inr ⟨by kernel_rfl, rfl⟩) ?_
          refine wpAny_take (i := 31) (v := undef) rfl (by kernel_rfl) (by kernel_rfl) (by kernel_rfl) (fun _ _ _ h => h) (Or.inr ⟨by kernel_rfl, rfl⟩) ?_
          refine wpAny_take (i := 32) (v := undef) rfl (by kernel_rfl) (by kernel_rfl) (by kernel_rfl) (fun _ _ _ h => h) (Or.inr ⟨by kernel_rfl, rfl⟩) ?_
          refine wpAny_take (i := 33) (v := undef) rfl (by kernel_rfl) (by kernel_rfl) (by kernel_rfl) (fun _ _ _ h => h) (Or.inr ⟨by kernel_rfl, rfl⟩) ?_
          refine wpAny_take (i := 34) (v := .bool false) rfl (by kernel_rfl) (by kernel_rfl) (by kernel_rfl) (fun _ _ _ h => h) (Or.inl ⟨by kernel_rfl, fun W => by go_simp⟩) ?_
          refine wpAny_take (i := 35) (v := .bool false) rfl (by kernel_rfl) (by kernel_rfl) (by kernel_rfl) (fun _ _ _ h => h) (Or.inl ⟨by kernel_rfl, fun W => by go_simp⟩) ?_
          refine wpAny_take (i := 36) (v := .bool false) rfl (by kernel_rfl) (by kernel_rfl) (by kernel_rfl) (fun _ _ _ h => h) (Or.inl ⟨by kernel_rfl, fun W => by go_simp⟩) ?_
          refine wpAny_take (i := 37) (v := .bool false) rfl (by kernel_rfl) (by kernel_rfl) (by kernel_rfl) (fun _ _ _ h => h) (Or.inl ⟨by kernel_rfl, fun W => by go_simp⟩) ?_
          refine wpAny_done (by kernel_rfl) ?_ _
          simp only [onlyN]
          go_wp2
          go_ret
          exact ⟨by kernel_rfl, hbw⟩
theorem hsees_any (A : Option Addr) (n c : Nat) (l : List TI) (w : World) (hn : l.length = n) (hA : Cells w A (flatTI l)) (i k : Int) : Calls Try.prog 13 #[.slice A n c, .int .i64 i, .int .i64 k] w fun e w' => e = .returned (.bool (sees (l.map TI.t) i k)) ∧ Below w.heap.size w w' := by
  have hn' : ((l.map TI.t).length : Int) = (n : Int) := by rw [List.length_map, hn]
  by_cases h : 0 ≤ i ∧ i < (n : Int) ∧ 0 ≤ k ∧ k < (n : Int) ∧ i ≠ k
  · obtain ⟨h1, h2, h3, h4, h5⟩ := h
    obtain ⟨a, rfl⟩ := Int.eq_ofNat_of_zero_le h1
    obtain ⟨b, rfl⟩ := Int.eq_ofNat_of_zero_le h3
    have ha : l[a]? = some l[a] := List.getElem?_eq_getElem (by omega)
    have hb : l[b]? = some l[b] := List.getElem?_eq_getElem (by omega)
    rw [sees_in (a := l[a].t) (b := l[b].t) (by rw [List.getElem?_map, ha]; rfl) (by rw [List.getElem?_map, hb]; rfl) (by omega)]
    exact hsees_in A n c l w hn hA a b _ _ ha hb (by omega)
  · rw [sees_out (by rw [hn']; exact h)]
    exact hsees_out A n c i k w h
theorem rsees_any (A : Option Addr) (n c : Nat) (l : List TI) (w : World) (hn : l.length = n) (hA : Cells w A (flatTI l)) (i k : Int) : Calls Try.prog 14 #[.slice A n c, .int .i64 i, .int .i64 k] w fun e w' => e = .returned (.bool (sees (l.map TI.t) i k)) ∧ Below w.heap.size w w' := by
  have hn' : ((l.map TI.t).length : Int) = (n : Int) := by rw [List.length_map, hn]
  by_cases h : 0 ≤ i ∧ i < (n : Int) ∧ 0 ≤ k ∧ k < (n : Int) ∧ i ≠ k
  · obtain ⟨h1, h2, h3, h4, h5⟩ := h
    obtain ⟨a, rfl⟩ := Int.eq_ofNat_of_zero_le h1
    obtain ⟨b, rfl⟩ := Int.eq_ofNat_of_zero_le h3
    have ha : l[a]? = some l[a] := List.getElem?_eq_getElem (by omega)
    have hb : l[b]? = some l[b] := List.getElem?_eq_getElem (by omega)
    rw [sees_in (a := l[a].t) (b := l[b].t) (by rw [List.getElem?_map, ha]; rfl) (by rw [List.getElem?_map, hb]; rfl) (by omega)]
    exact rsees_in A n c l w hn hA a b _ _ ha hb (by omega)
  · rw [sees_out (by rw [hn']; exact h)]
    exact rsees_out A n c i k w h
end Go.Proofs.Ytiapolcpebilmaa
