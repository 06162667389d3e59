/-
  The walk of the law HistChecks: whatever data come in, the call returns true and leaves what was there. Conditions: the arguments' cells lie as the hypotheses say.
-/
import Derived.Test.YtiapolcpebilmaaRcheckT
import Derived.Test.YtiapolcpebilmaaToldT
import Derived.Test.YtiapolcpebilmaaAwakeH
namespace Go.Proofs.Ytiapolcpebilmaa.lawHistChecks
open Go.RowKit Go.ChangeShapes Go.WideShapes Go.Deep Go.Maps Go.ChangeAt
set_option linter.unusedVariables false

theorem few_ok {w w' : World} {x : TI} (h : x.wf w) (hb : Below w.heap.size w w') : (fewTI x).ok w' :=
  ⟨⟨Cells.takeG (cf := Rd.cells) (h.at'.r.on hb) 8, Cells.takeG (cf := V.cells) (h.at'.d.on hb) 8⟩, by show (x.t.rds.take 8).length ≤ _; rw [List.length_take]; omega, by show (x.t.wrs.take 8).length ≤ _; rw [List.length_take]; omega⟩
theorem of_few {l : List TI} {P : TI → Prop} (h : ∀ x ∈ l, P (fewTI x)) : ∀ x ∈ fewL l, P x := by
  intro x hx
  unfold fewL fewTo at hx
  obtain ⟨y, hy, rfl⟩ := List.mem_map.1 hx
  exact h y (List.mem_of_mem_take hy)
theorem few_rds {l : List TI} : ∀ x ∈ fewL l, x.t.rds.length ≤ 1000 := of_few fun x hx => by show (x.t.rds.take 8).length ≤ _; rw [List.length_take]; omega
theorem few_max (l : List TI) : (fewL l).length ≤ 40 := by unfold fewL; rw [fewTo_len (by omega)]; omega
set_option maxRecDepth 100000 in
set_option maxHeartbeats 4000000 in
theorem walk (A : Option Addr) (n c : Nat) (l : List TI) (w : World) (hn : l.length = n) (hA : Cells w A (flatTI l)) (hm : n ≤ 9223372036854775807) (hall : ∀ x ∈ l, x.wf w) : Calls Try.prog 3 #[.slice A n c] w fun e w' => e = .returned (.bool true) ∧ Below w.heap.size w w' := by
  have hok : ∀ W, Below w.heap.size w W → ∀ x ∈ fewL l, x.ok W := fun W hW => of_few fun x hx => few_ok (hall x hx) hW
  have hrd := few_rds (l := l)
  have hmx := few_max l
  obtain ⟨L, hL⟩ : ∃ L, fewL l = L := ⟨_, rfl⟩
  have HL := Lib.hid hL
  rw [hL] at hok hrd hmx
  obtain ⟨N, hN⟩ : ∃ N, L.length = N := ⟨_, rfl⟩
  rw [hN] at hmx
  have HN := Lib.hid hN
  have HOK := Lib.hid hok
  have HRD := Lib.hid hrd
  have hm1 : N ≤ 1000 := by omega
  have hm2 : N ≤ 9223372036854775807 := by omega
  clear hL hok hrd hN
  obtain ⟨c1, hc1⟩ : ∃ v, (check (L.map TI.t)).1 = v := ⟨_, rfl⟩
  obtain ⟨c2, hc2⟩ : ∃ v, (check (L.map TI.t)).2 = v := ⟨_, rfl⟩
  have HC1 := Lib.hid hc1
  have HC2 := Lib.hid hc2
  clear hc1 hc2
  go_enter Try.func3, Try.ntmps3
  go_wp2_with fail
  refine (few_any A n c l w hn hA hm hall).mono ?_
  rintro e w1 ⟨D, cp, rfl, hown, b1⟩
  rw [HL.out, HN.out] at hown ⊢
  go_wp2_with fail
  refine (hcheck_any D N cp L w1 HN.out (Cells.of_own hown) hm2 (HOK.out _ b1)).mono ?_
  rintro e w2 ⟨rfl, b2⟩
  rw [HC1.out, HC2.out]
  go_wp2_with fail
  refine (told_any D N cp L w2 HN.out (Cells.of_own (own_on hown b2)) hm1 (HOK.out _ (below_own b1 b2)) HRD.out).mono ?_
  rintro e w3 ⟨D3, cp3, L3, rfl, hc3, ho3, hm3, b3⟩
  have hl3 : L3.length = N := by have h := congrArg List.length hm3; rw [List.length_map, List.length_map, HN.out] at h; exact h
  rw [hl3]
  go_wp2_with fail
  refine (rcheck_any D3 N cp3 L3 w3 hl3 hc3 hm2 ho3).mono ?_
  rintro e w4 ⟨rfl, b4⟩
  rw [hm3, HC1.out, HC2.out]
  go_wp2_with fail
  refine (awake_any _).mono ?_
  rintro e w5 ⟨rfl, b5⟩
  go_wp2
  go_ret
  exact ⟨rfl, below_own b1 (below_own (below_own (below_own b2 b3) b4) b5)⟩
end Go.Proofs.Ytiapolcpebilmaa.lawHistChecks
