/-
  The walk of the law HistSees: whatever data come in, the call returns true and leaves what was there. Conditions: the arguments' cells lie as the hypotheses say.
-/
import Derived.Test.YtiapolcpebilmaaRwantT
import Derived.Test.YtiapolcpebilmaaToldT
import Derived.Test.YtiapolcpebilmaaAwakeH
namespace Go.Proofs.Ytiapolcpebilmaa.lawHistSees
open Go.RowKit Go.ChangeShapes Go.WideShapes Go.Deep Go.Maps Go.ChangeAt
set_option linter.unusedVariables false

theorem few_ok {w w' : World} {x : TI} (h : x.wf w) (hb : Below w.heap.size w w') : (fewTI x).ok w' :=
  ⟨⟨Cells.takeG (cf := Rd.cells) (h.at'.r.on hb) 8, Cells.takeG (cf := V.cells) (h.at'.d.on hb) 8⟩, by show (x.t.rds.take 8).length ≤ _; rw [List.length_take]; omega, by show (x.t.wrs.take 8).length ≤ _; rw [List.length_take]; omega⟩
theorem of_few {l : List TI} {P : TI → Prop} (h : ∀ x ∈ l, P (fewTI x)) : ∀ x ∈ fewL l, P x := by
  intro x hx
  unfold fewL fewTo at hx
  obtain ⟨y, hy, rfl⟩ := List.mem_map.1 hx
  exact h y (List.mem_of_mem_take hy)
theorem few_rds {l : List TI} : ∀ x ∈ fewL l, x.t.rds.length ≤ 1000 := of_few fun x hx => by show (x.t.rds.take 8).length ≤ _; rw [List.length_take]; omega
theorem few_max (l : List TI) : (fewL l).length ≤ 40 := by unfold fewL; rw [fewTo_len (by omega)]; omega
set_option maxRecDepth 100000 in
set_option maxHeartbeats 4000000 in
theorem walk (A : Option Addr) (n c : Nat) (l : List TI) (w : World) (hn : l.length = n) (hA : Cells w A (flatTI l)) (hm : n ≤ 9223372036854775807) (hall : ∀ x ∈ l, x.wf w) (i k : Int) (key : ByteArray) : Calls Try.prog 4 #[.slice A n c, .int .i64 i, .int .i64 k, .string key] w fun e w' => e = .returned (.bool true) ∧ Below w.heap.size w w' := by
  have hok : ∀ W, Below w.heap.size w W → ∀ x ∈ fewL l, x.ok W := fun W hW => of_few fun x hx => few_ok (hall x hx) hW
  have hrd := few_rds (l := l)
  have hmx := few_max l
  obtain ⟨L, hL⟩ : ∃ L, fewL l = L := ⟨_, rfl⟩
  have HL := Lib.hid hL
  rw [hL] at hok hrd hmx
  obtain ⟨N, hN⟩ : ∃ N, L.length = N := ⟨_, rfl⟩
  rw [hN] at hmx
  have HN := Lib.hid hN
  have HOK := Lib.hid hok
  have HRD := Lib.hid hrd
  have hm1 : N ≤ 1000 := by omega
  have hm2 : N ≤ 9223372036854775807 := by omega
  clear hL hok hrd hN
  by_cases hi : 0 ≤ i ∧ i < (N : Int)
  · obtain ⟨h1, h2⟩ := hi
    obtain ⟨i, rfl⟩ := Int.eq_ofNat_of_zero_le h1
    obtain ⟨s, hs⟩ : ∃ s, sees (L.map TI.t) (i : Int) k = s := ⟨_, rfl⟩
    obtain ⟨v, hv⟩ : ∃ v, (want (L.map TI.t) i key).getD v0 = v := ⟨_, rfl⟩
    obtain ⟨is, his⟩ : ∃ is, (want (L.map TI.t) i key).isSome = is := ⟨_, rfl⟩
    obtain ⟨x, hx⟩ : ∃ x, L[i]? = some x := ⟨_, List.getElem?_eq_getElem (by have := HN.out; omega)⟩
    obtain ⟨u, hu⟩ : ∃ u, x.t.has = u := ⟨_, rfl⟩
    have HS := Lib.hid hs
    have HV := Lib.hid hv
    have HI := Lib.hid his
    have HX := Lib.hid hx
    have HU := Lib.hid hu
    clear hs hv his hx hu
    have d1 : decide ((i : Int) < 0) = false := by simp
    have d2 : decide ((N : Int) ≤ (i : Int)) = false := by simp; omega
    have hq := fun w => ver_eq v v w
    rw [veq_same] at hq
    go_enter Try.func4, Try.ntmps4
    go_wp2_with fail
    refine (few_any A n c l w hn hA hm hall).mono ?_
    rintro e w1 ⟨D, cp, rfl, hown, b1⟩
    rw [HL.out, HN.out] at hown ⊢
    go_wp2_with fail
    refine (hsees_any D N cp L w1 HN.out (Cells.of_own hown) (i : Int) k).mono ?_
    rintro e w2 ⟨rfl, b2⟩
    rw [HS.out]
    go_wp2_with fail
    refine (told_any D N cp L w2 HN.out (Cells.of_own (own_on hown b2)) hm1 (HOK.out _ (below_own b1 b2)) HRD.out).mono ?_
    rintro e w3 ⟨D3, cp3, L3, rfl, hc3, ho3, hm3, b3⟩
    have hl3 : L3.length = N := by have h := congrArg List.length hm3; rw [List.length_map, List.length_map, HN.out] at h; exact h
    rw [hl3]
    go_wp2_with fail
    refine (rsees_any D3 N cp3 L3 w3 hl3 hc3 (i : Int) k).mono ?_
    rintro e w4 ⟨rfl, b4⟩
    rw [hm3, HS.out]
    have c4 : Below w1.heap.size w1 w4 := below_own (below_own b2 b3) b4
    go_wp2_with fail
    refine (hwant_any D N cp L w4 HN.out (Cells.of_own (own_on hown c4)) hm2 (HOK.out _ (below_own b1 c4)) i key).mono ?_
    rintro e w5 ⟨rfl, b5⟩
    rw [HV.out, HI.out]
    simp only [V.v]
    have c5 : Below w1.heap.size w1 w5 := below_own c4 b5
    go_wp2_with fail
    refine (told_any D N cp L _ HN.out (Cells.of_own (own_on hown (own_alloc c5 _))) hm1 (HOK.out _ (below_own b1 (own_alloc c5 _))) HRD.out).mono ?_
    rintro e w6 ⟨D6, cp6, L6, rfl, hc6, ho6, hm6, b6⟩
    have hl6 : L6.length = N := by have h := congrArg List.length hm6; rw [List.length_map, List.length_map, HN.out] at h; exact h
    rw [hl6]
    have c6 : Below w1.heap.size w1 w6 := below_own (own_alloc c5 _) b6
    have p0 : w6.cell? ⟨w5.heap.size, 0, none⟩ = some (.string v.key) := (box_on b6).1 0
    have p1 : w6.cell? ⟨w5.heap.size, 1, none⟩ = some (.string v.val) := (box_on b6).1 1
    have p2 : w6.cell? ⟨w5.heap.size, 2, none⟩ = some (.bool v.gone) := (box_on b6).1 2
    have p3 : w6.cell? ⟨w5.heap.size, 3, none⟩ = some (.int .u64 v.ts) := (box_on b6).1 3
    have p4 : w6.cell? ⟨w5.heap.size, 4, none⟩ = some (.int .i64 v.dc) := (box_on b6).1 4
    have p5 : w6.cell? ⟨w5.heap.size, 5, none⟩ = some (.int .i64 v.tx) := (box_on b6).1 5
    go_wp2_with fail
    refine (rwant_any D6 N cp6 L6 w6 hl6 hc6 hm2 ho6 i key).mono ?_
    rintro e w7 ⟨rfl, b7⟩
    rw [hm6, HV.out, HI.out]
    simp only [V.v]
    have c7 : Below w1.heap.size w1 w7 := below_own c6 b7
    replace p0 := cell_on b7 p0
    replace p1 := cell_on b7 p1
    replace p2 := cell_on b7 p2
    replace p3 := cell_on b7 p3
    replace p4 := cell_on b7 p4
    replace p5 := cell_on b7 p5
    go_wp2_with fail
    refine (awake_any _).mono ?_
    rintro e w8 ⟨rfl, b8⟩
    have c8 : Below w1.heap.size w1 w8 := below_own (own_alloc c7 _) b8
    have q0 : w8.cell? ⟨w7.heap.size, 0, none⟩ = some (.string v.key) := (box_on b8).1 0
    have q1 : w8.cell? ⟨w7.heap.size, 1, none⟩ = some (.string v.val) := (box_on b8).1 1
    have q2 : w8.cell? ⟨w7.heap.size, 2, none⟩ = some (.bool v.gone) := (box_on b8).1 2
    have q3 : w8.cell? ⟨w7.heap.size, 3, none⟩ = some (.int .u64 v.ts) := (box_on b8).1 3
    have q4 : w8.cell? ⟨w7.heap.size, 4, none⟩ = some (.int .i64 v.dc) := (box_on b8).1 4
    have q5 : w8.cell? ⟨w7.heap.size, 5, none⟩ = some (.int .i64 v.tx) := (box_on b8).1 5
    replace p0 := cell_on b8 (cell_on (own_alloc (own_refl _) _) p0)
    replace p1 := cell_on b8 (cell_on (own_alloc (own_refl _) _) p1)
    replace p2 := cell_on b8 (cell_on (own_alloc (own_refl _) _) p2)
    replace p3 := cell_on b8 (cell_on (own_alloc (own_refl _) _) p3)
    replace p4 := cell_on b8 (cell_on (own_alloc (own_refl _) _) p4)
    replace p5 := cell_on b8 (cell_on (own_alloc (own_refl _) _) p5)
    obtain ⟨gb, go, hDe, x0, x1, x2, x3, x4, x5, x6, x7⟩ := get_tx (Cells.of_own (own_on hown c8)) HX.out
    have HD := Lib.hid hDe
    rw [hDe]
    clear hDe
    go_wp2_with fail
    refine (hhas_any x w8).mono ?_
    rintro e w9 ⟨rfl, b9⟩
    rw [HU.out]
    have c9 : Below w1.heap.size w1 w9 := below_own c8 b9
    go_wp2_with fail
    refine (told_any _ N cp L w9 HN.out (HD.out ▸ (Cells.of_own (own_on hown c9))) hm1 (HOK.out _ (below_own b1 c9)) HRD.out).mono ?_
    rintro e w10 ⟨D10, cp10, L10, rfl, hc10, ho10, hm10, b10⟩
    have hl10 : L10.length = N := by have h := congrArg List.length hm10; rw [List.length_map, List.length_map, HN.out] at h; exact h
    rw [hl10]
    obtain ⟨y, hy⟩ : ∃ y, L10[i]? = some y := ⟨_, List.getElem?_eq_getElem (by omega)⟩
    have hyx : y.t = x.t := by have h := congrArg (fun l => l[i]?) hm10; simp only [List.getElem?_map, hy, HX.out] at h; injection h
    obtain ⟨yb, yo, rfl, y0, y1, y2, y3, y4, y5, y6, y7⟩ := get_tx hc10 hy
    have HYX := Lib.hid hyx
    clear hy hyx
    go_wp2_with fail
    refine (rhas_any y w10).mono ?_
    rintro e w11 ⟨rfl, b11⟩
    rw [HYX.out, HU.out]
    go_wp2
    go_ret
    exact ⟨rfl, below_own b1 (below_own (below_own c9 b10) b11)⟩
  · have HS := Lib.hid (sees_out (l := L.map TI.t) (i := i) (k := k) (by rw [List.length_map, HN.out]; omega))
    by_cases h1 : i < 0
    · have d1 : decide (i < 0) = true := by simpa using h1
      clear hi
      go_enter Try.func4, Try.ntmps4
      go_wp2_with fail
      refine (few_any A n c l w hn hA hm hall).mono ?_
      rintro e w1 ⟨D, cp, rfl, hown, b1⟩
      rw [HL.out, HN.out] at hown ⊢
      go_wp2_with fail
      refine (hsees_any D N cp L w1 HN.out (Cells.of_own hown) i k).mono ?_
      rintro e w2 ⟨rfl, b2⟩
      rw [HS.out]
      go_wp2_with fail
      refine (told_any D N cp L w2 HN.out (Cells.of_own (own_on hown b2)) hm1 (HOK.out _ (below_own b1 b2)) HRD.out).mono ?_
      rintro e w3 ⟨D3, cp3, L3, rfl, hc3, ho3, hm3, b3⟩
      have hl3 : L3.length = N := by have h := congrArg List.length hm3; rw [List.length_map, List.length_map, HN.out] at h; exact h
      rw [hl3]
      go_wp2_with fail
      refine (rsees_any D3 N cp3 L3 w3 hl3 hc3 i k).mono ?_
      rintro e w4 ⟨rfl, b4⟩
      rw [hm3, HS.out]
      have c4 : Below w1.heap.size w1 w4 := below_own (below_own b2 b3) b4
      go_wp2_with fail
      refine (awake_any _).mono ?_
      rintro e w5 ⟨rfl, b5⟩
      have c5 : Below w1.heap.size w1 w5 := below_own c4 b5
      go_wp2_with fail
      refine (hsees_any D N cp L w5 HN.out (Cells.of_own (own_on hown c5)) i k).mono ?_
      rintro e w6 ⟨rfl, b6⟩
      rw [HS.out]
      go_wp2
      go_ret
      exact ⟨rfl, below_own b1 (below_own c5 b6)⟩
    · have d1 : decide (i < 0) = false := by simpa using h1
      have d2 : decide ((N : Int) ≤ i) = true := by simp; omega
      have d3 : (N : Int) ≤ i := by omega
      clear hi
      go_enter Try.func4, Try.ntmps4
      go_wp2_with fail
      refine (few_any A n c l w hn hA hm hall).mono ?_
      rintro e w1 ⟨D, cp, rfl, hown, b1⟩
      rw [HL.out, HN.out] at hown ⊢
      go_wp2_with fail
      refine (hsees_any D N cp L w1 HN.out (Cells.of_own hown) i k).mono ?_
      rintro e w2 ⟨rfl, b2⟩
      rw [HS.out]
      go_wp2_with fail
      refine (told_any D N cp L w2 HN.out (Cells.of_own (own_on hown b2)) hm1 (HOK.out _ (below_own b1 b2)) HRD.out).mono ?_
      rintro e w3 ⟨D3, cp3, L3, rfl, hc3, ho3, hm3, b3⟩
      have hl3 : L3.length = N := by have h := congrArg List.length hm3; rw [List.length_map, List.length_map, HN.out] at h; exact h
      rw [hl3]
      go_wp2_with fail
      refine (rsees_any D3 N cp3 L3 w3 hl3 hc3 i k).mono ?_
      rintro e w4 ⟨rfl, b4⟩
      rw [hm3, HS.out]
      have c4 : Below w1.heap.size w1 w4 := below_own (below_own b2 b3) b4
      go_wp2_with fail
      refine (awake_any _).mono ?_
      rintro e w5 ⟨rfl, b5⟩
      have c5 : Below w1.heap.size w1 w5 := below_own c4 b5
      go_wp2_with fail
      refine (hsees_any D N cp L w5 HN.out (Cells.of_own (own_on hown c5)) i k).mono ?_
      rintro e w6 ⟨rfl, b6⟩
      rw [HS.out]
      go_wp2
      go_ret
      exact ⟨rfl, below_own b1 (below_own c5 b6)⟩
end Go.Proofs.Ytiapolcpebilmaa.lawHistSees
