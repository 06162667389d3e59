/-
  The walk of the law OrderAlike: whatever data come in, the call returns true and leaves what was there. Conditions: the arguments' cells lie as the hypotheses say.
-/
import Derived.Test.YtggbdjdfejcpjaaSameL
import Derived.Test.YtggbdjdfejcpjaaAlikeP
import Derived.Test.YtggbdjdfejcpjaaOpenAlike
import Derived.Deep.RegionHeld3
import Derived.BigRegion
import Derived.IntWalk
import Derived.WalkMore
namespace Go.Proofs.Ytggbdjdfejcpjaa.lawOrderAlike
open Go.RowKit Go.Maps
set_option linter.unusedVariables false

theorem decR_form {x x' : Lg} {r : R} {e : Ending} {w' : World} (h : DecR x r e w' x') : ∃ er : Int, e = .returned (.int .i64 er) := by
  rcases h with ⟨_, rfl, _⟩ | ⟨_, _, rfl, _⟩ | ⟨_, _, rfl, _⟩ <;> exact ⟨_, rfl⟩
theorem row_q {w : World} {base : Nat} {g n cp : Nat} {l : List Q} (h : w.ownsRow base 32 4 (.slice (some ⟨g, 0, none⟩) n cp) n (flatQ l)) {k : Nat} {x : Q} (hx : l[k]? = some x) : w.cell? ⟨g, k * 4, none⟩ = some (.int .u64 x.r.ts) ∧ w.cell? ⟨g, k * 4 + 1, none⟩ = some (.int .i64 x.r.dc) ∧ w.cell? ⟨g, k * 4 + 2, none⟩ = some (.int .i64 x.r.tx) ∧ w.cell? ⟨g, k * 4 + 3, none⟩ = some (.slice x.D x.r.vers.length x.c) := by
  obtain ⟨b, o, e, c0, c1, c2, c3⟩ := get_q (Cells.of_own h) hx
  injection e with e
  injection e with e1 e2
  subst e1 e2
  simp only [Nat.zero_add] at c0 c1 c2 c3
  exact ⟨c0, c1, c2, c3⟩
theorem row_drewN {w : World} {base : Nat} {e : TypeId} {size n : Nat} {v : Value} {xs : List Value} (h : w.ownsRow base e size v n xs) (k : Nat) : (w.drewN k).ownsRow base e size v n xs := ((Turns.refl none' w).drewN k).row h (fun _ _ => id)
/-- two logs, apart from each other and from all that was there. -/
structure Two (W0 w : World) (Ba Bb ba bb : Nat) (va wa vb wb : Value) (La Ma Lb Mb : List Q) (xa xb : Lg) : Prop where
  a : LogAt w Ba ba va wa La Ma xa
  b : LogAt w Bb bb vb wb Lb Mb xb
  la : ∀ g, logS ba va wa g → g = ba ∨ W0.heap.size ≤ g
  lb : ∀ g, logS bb vb wb g → g = bb ∨ W0.heap.size ≤ g
  dis : ∀ g, logS ba va wa g → ¬ logS bb vb wb g
  t : Turns (fun g => g = ba ∨ g = bb) W0 w
section
variable {W0 w w' : World} {Ba Bb ba bb : Nat} {va wa vb wb va' wa' : Value} {La Ma Lb Mb La' Ma' : List Q} {xa xb xa' : Lg}
theorem Two.symm (h : Two W0 w Ba Bb ba bb va wa vb wb La Ma Lb Mb xa xb) : Two W0 w Bb Ba bb ba vb wb va wa Lb Mb La Ma xb xa :=
  ⟨h.b, h.a, h.lb, h.la, fun g e e' => h.dis g e' e, h.t.weaken fun _ _ e => e.symm⟩
theorem Two.step (h : Two W0 w Ba Bb ba bb va wa vb wb La Ma Lb Mb xa xb) (hL : LogAt w' Ba ba va' wa' La' Ma' xa') (ht : Turns (logS ba va wa) w w') (ho : ∀ g, g < w.heap.size → logS ba va' wa' g → logS ba va wa g) : Two W0 w' Ba Bb ba bb va' wa' vb wb La' Ma' Lb Mb xa' xb := by
  refine ⟨hL, h.b.turn ht (fun g e e' => h.dis g e' e) h.a.noVB, fun g e => ?_, h.lb, fun g e e' => ?_, h.t.on ht fun g hg e => ?_⟩
  · rcases Nat.lt_or_ge g w.heap.size with c | c
    · exact h.la g (ho g c e)
    · exact .inr (Nat.le_trans h.t.size c)
  · exact h.dis g (ho g (h.b.lt g e') e) e'
  · rcases h.la g e with c | c
    · exact .inl c
    · omega
theorem Two.on (h : Two W0 w Ba Bb ba bb va wa vb wb La Ma Lb Mb xa xb) (hb : Below w.heap.size w w') : Two W0 w' Ba Bb ba bb va wa vb wb La Ma Lb Mb xa xb :=
  ⟨h.a.on hb, h.b.on hb, h.la, h.lb, h.dis, h.t.below' hb⟩
end
set_option maxRecDepth 100000 in
set_option maxHeartbeats 8000000 in
theorem walk (A S : Option Addr) (n c m d : Nat) (t : Int) (l : List RI) (zs : List P2) (w : World) (hn : l.length = n) (hm : n ≤ 9223372036854775807) (hA : Cells w A (flatRI l)) (wA : ∀ x ∈ l, x.at w) (hz : zs.length = m) (hmm : m ≤ 9223372036854775807) (hS : Cells w S (zs.flatMap P2.cells)) (ht : 0 ≤ t ∧ t ≤ 18446744073709551615) :
    Calls Try.prog 5 #[.slice A n c, .slice S m d, .int .u64 t] w fun e w' => e = .returned (.bool true) ∧ Below w.heap.size w w' := by
  obtain ⟨i0, hi0, hz0, hz1, hz2⟩ := info_parts infoRec
  go_enter Try.func5, Try.ntmps5
  go_wp2_with fail
  go_step3
  go_wp2_with fail
  go_step3
  go_wp2_with fail
  go_loopw [7, 8] (fun v7 i wr => ∃ (k : Nat) (L : List Q) (Dr : Option Addr) (cr : Nat), k ≤ n ∧ k ≤ 40 ∧ i = .int .i64 k ∧ v7 = .slice Dr L.length cr ∧ wr.ownsRow w.heap.size 32 4 (.slice Dr L.length cr) L.length (flatQ L) ∧ L.length ≤ k ∧ Apart (L.map Q.r) ∧ (∀ q ∈ L, Fed w q) ∧ Below w.heap.size w wr) (fun _ i _ => n - (intOf i).toNat)
  case atStart => exact ⟨0, [], none, 0, Nat.zero_le _, by omega, rfl, rfl, World.ownsRow_nil _ _ _ _, Nat.zero_le _, List.Pairwise.nil, by simp, own_refl _⟩
  case round =>
    obtain ⟨k, L, Dr, cr, hk, hk40, rfl, rfl, hrow, hLk, hap, hfed, hbel⟩ := hrel
    by_cases hlt : k < n ∧ k < 40
    · obtain ⟨hlt, hlt40⟩ := hlt
      obtain ⟨o, ho⟩ : ∃ o, l[k]? = some o := ⟨_, List.getElem?_eq_getElem (by omega)⟩
      obtain ⟨ga, oa, rfl, x0, x1, x2, x3⟩ := get_ri hA ho
      have x0' := cell_on hbel x0
      have x1' := cell_on hbel x1
      have x2' := cell_on hbel x2
      have x3' := cell_on hbel x3
      have hw := wA o (List.mem_of_getElem? ho)
      have g3 : (0 : Int) ≤ (k : Int) := by omega
      have g4 : (k : Int) < (n : Int) := by omega
      have g5 : (k : Int) < 40 := by omega
      have HAP := Lib.hid hap
      have HFED := Lib.hid hfed
      have HW := Lib.hid hw
      have hbk := hbel
      have hrk := hrow
      clear x0 x1 x2 x3 hA wA hap hfed hw hrow hbel
      go_wp2_with fail
      obtain ⟨wk, hwk⟩ : ∃ wk, wr = wk := ⟨_, rfl⟩
      rw [hwk] at hbk hrk x0' x1' x2' x3' ⊢
      clear hwk
      go_loopw [31] (fun i wr => ∃ j : Nat, j ≤ L.length ∧ i = .int .i64 j ∧ (∀ a ∈ L.take j, a.r.k ≠ o.r.k) ∧ Below wk.heap.size wk wr) (fun i _ => L.length - (intOf i).toNat)
      case atStart => exact ⟨0, Nat.zero_le _, rfl, by simp, own_refl _⟩
      case round =>
        obtain ⟨j, hj, rfl, hno, hbi⟩ := hrel
        have y0 := cell_on hbi x0'
        have y1 := cell_on hbi x1'
        have y2 := cell_on hbi x2'
        have y3 := cell_on hbi x3'
        have hri := own_on hrk hbi
        by_cases hjl : j < L.length
        · obtain ⟨q, hq⟩ : ∃ q, L[j]? = some q := ⟨_, List.getElem?_eq_getElem hjl⟩
          obtain ⟨gr, og, rfl, q0, q1, q2, q3⟩ := get_q (Cells.of_own hri) hq
          have p1 : (0 : Int) ≤ (j : Int) := by omega
          have p2 : (j : Int) < (L.length : Int) := by omega
          have HNO := Lib.hid hno
          have HQ := Lib.hid hq
          clear hno hq
          by_cases hkk : q.r.k = o.r.k
          · have hme : ∀ w, (binOp .eql 49 (.agg #[.int .u64 q.r.ts, .int .i64 q.r.dc, .int .i64 q.r.tx]) (.agg #[.int .u64 o.r.ts, .int .i64 o.r.dc, .int .i64 o.r.tx])).run Try.prog w = .ok (.bool true) w := fun w => by
              have h1 : q.r.ts = o.r.ts ∧ q.r.dc = o.r.dc ∧ q.r.tx = o.r.tx := by unfold R.k at hkk; injection hkk with a b c; exact ⟨a, b, c⟩
              rw [mark_eq, h1.1, h1.2.1, h1.2.2]; simp
            clear hkk
            have z0 : (wr.alloc (.cells #[.int .u64 q.r.ts, .int .i64 q.r.dc, .int .i64 q.r.tx, .slice q.D q.r.vers.length q.c] 32)).cell? ⟨ga, oa + k * 4, none⟩ = some (.int .u64 o.r.ts) := cell_on (own_alloc (own_refl _) _) y0
            have z1 : (wr.alloc (.cells #[.int .u64 q.r.ts, .int .i64 q.r.dc, .int .i64 q.r.tx, .slice q.D q.r.vers.length q.c] 32)).cell? ⟨ga, oa + k * 4 + 1, none⟩ = some (.int .i64 o.r.dc) := cell_on (own_alloc (own_refl _) _) y1
            have z2 : (wr.alloc (.cells #[.int .u64 q.r.ts, .int .i64 q.r.dc, .int .i64 q.r.tx, .slice q.D q.r.vers.length q.c] 32)).cell? ⟨ga, oa + k * 4 + 2, none⟩ = some (.int .i64 o.r.tx) := cell_on (own_alloc (own_refl _) _) y2
            have z3 : (wr.alloc (.cells #[.int .u64 q.r.ts, .int .i64 q.r.dc, .int .i64 q.r.tx, .slice q.D q.r.vers.length q.c] 32)).cell? ⟨ga, oa + k * 4 + 3, none⟩ = some (.slice o.D o.r.vers.length o.c) := cell_on (own_alloc (own_refl _) _) y3
            have b0 : (wr.alloc (.cells #[.int .u64 q.r.ts, .int .i64 q.r.dc, .int .i64 q.r.tx, .slice q.D q.r.vers.length q.c] 32)).cell? ⟨wr.heap.size, 0, none⟩ = some (.int .u64 q.r.ts) := (box_on (own_refl _)).1 0
            have b1 : (wr.alloc (.cells #[.int .u64 q.r.ts, .int .i64 q.r.dc, .int .i64 q.r.tx, .slice q.D q.r.vers.length q.c] 32)).cell? ⟨wr.heap.size, 1, none⟩ = some (.int .i64 q.r.dc) := (box_on (own_refl _)).1 1
            have b2 : (wr.alloc (.cells #[.int .u64 q.r.ts, .int .i64 q.r.dc, .int .i64 q.r.tx, .slice q.D q.r.vers.length q.c] 32)).cell? ⟨wr.heap.size, 2, none⟩ = some (.int .i64 q.r.tx) := (box_on (own_refl _)).1 2
            have b3 : (wr.alloc (.cells #[.int .u64 q.r.ts, .int .i64 q.r.dc, .int .i64 q.r.tx, .slice q.D q.r.vers.length q.c] 32)).cell? ⟨wr.heap.size, 3, none⟩ = some (.slice q.D q.r.vers.length q.c) := (box_on (own_refl _)).1 3
            go_wp2_with fail
            go_region_held3 (fun w' => Below wr.heap.size wr w' ∧ w'.cell? ⟨wr.heap.size, 0, none⟩ = some (.int .u64 q.r.ts) ∧ w'.cell? ⟨wr.heap.size, 1, none⟩ = some (.int .i64 q.r.dc) ∧ w'.cell? ⟨wr.heap.size, 2, none⟩ = some (.int .i64 q.r.tx) ∧ w'.cell? ⟨wr.heap.size, 3, none⟩ = some (.slice q.D q.r.vers.length q.c) ∧ w'.cell? ⟨ga, oa + k * 4, none⟩ = some (.int .u64 o.r.ts) ∧ w'.cell? ⟨ga, oa + k * 4 + 1, none⟩ = some (.int .i64 o.r.dc) ∧ w'.cell? ⟨ga, oa + k * 4 + 2, none⟩ = some (.int .i64 o.r.tx) ∧ w'.cell? ⟨ga, oa + k * 4 + 3, none⟩ = some (.slice o.D o.r.vers.length o.c))
                (first | exact ⟨own_drew (own_alloc (own_refl _) _), b0, b1, b2, b3, z0, z1, z2, z3⟩ | (refine ⟨own_drew (own_alloc (own_refl _) _), ?_, ?_, ?_, ?_, ?_, ?_, ?_, ?_⟩ <;> (go_simp; done)) | (go_split_ands; refine ⟨below_own (by assumption) (by assumption), ?_, ?_, ?_, ?_, ?_, ?_, ?_, ?_⟩ <;> exact cell_on (by assumption) (by assumption)))
                ((go_at_call 21; refine (mark_any _ _ _ _ _).mono ?_; rintro e w2 ⟨rfl, hb2⟩))
            rename_i hSS
            have hb3 := hSS.1
            clear hSS
            go_wp2
            go_roundw
            case rel => exact ⟨k + 1, L, _, cr, by omega, by omega, by go_num, rfl, own_on hri hb3, by omega, HAP.out, HFED.out, below_own hbk (below_own hbi hb3)⟩
            case measure => simp [intOf]; omega
          · have hme : ∀ w, (binOp .eql 49 (.agg #[.int .u64 q.r.ts, .int .i64 q.r.dc, .int .i64 q.r.tx]) (.agg #[.int .u64 o.r.ts, .int .i64 o.r.dc, .int .i64 o.r.tx])).run Try.prog w = .ok (.bool false) w := fun w => by
              rw [mark_eq]
              cases e1 : (q.r.ts == o.r.ts && (q.r.dc == o.r.dc && q.r.tx == o.r.tx)) with
              | false => rfl
              | true =>
                exfalso
                simp at e1
                exact hkk (by unfold R.k; rw [e1.1, e1.2.1, e1.2.2])
            have HKK := Lib.hid hkk
            clear hkk
            have z0 : (wr.alloc (.cells #[.int .u64 q.r.ts, .int .i64 q.r.dc, .int .i64 q.r.tx, .slice q.D q.r.vers.length q.c] 32)).cell? ⟨ga, oa + k * 4, none⟩ = some (.int .u64 o.r.ts) := cell_on (own_alloc (own_refl _) _) y0
            have z1 : (wr.alloc (.cells #[.int .u64 q.r.ts, .int .i64 q.r.dc, .int .i64 q.r.tx, .slice q.D q.r.vers.length q.c] 32)).cell? ⟨ga, oa + k * 4 + 1, none⟩ = some (.int .i64 o.r.dc) := cell_on (own_alloc (own_refl _) _) y1
            have z2 : (wr.alloc (.cells #[.int .u64 q.r.ts, .int .i64 q.r.dc, .int .i64 q.r.tx, .slice q.D q.r.vers.length q.c] 32)).cell? ⟨ga, oa + k * 4 + 2, none⟩ = some (.int .i64 o.r.tx) := cell_on (own_alloc (own_refl _) _) y2
            have z3 : (wr.alloc (.cells #[.int .u64 q.r.ts, .int .i64 q.r.dc, .int .i64 q.r.tx, .slice q.D q.r.vers.length q.c] 32)).cell? ⟨ga, oa + k * 4 + 3, none⟩ = some (.slice o.D o.r.vers.length o.c) := cell_on (own_alloc (own_refl _) _) y3
            have b0 : (wr.alloc (.cells #[.int .u64 q.r.ts, .int .i64 q.r.dc, .int .i64 q.r.tx, .slice q.D q.r.vers.length q.c] 32)).cell? ⟨wr.heap.size, 0, none⟩ = some (.int .u64 q.r.ts) := (box_on (own_refl _)).1 0
            have b1 : (wr.alloc (.cells #[.int .u64 q.r.ts, .int .i64 q.r.dc, .int .i64 q.r.tx, .slice q.D q.r.vers.length q.c] 32)).cell? ⟨wr.heap.size, 1, none⟩ = some (.int .i64 q.r.dc) := (box_on (own_refl _)).1 1
            have b2 : (wr.alloc (.cells #[.int .u64 q.r.ts, .int .i64 q.r.dc, .int .i64 q.r.tx, .slice q.D q.r.vers.length q.c] 32)).cell? ⟨wr.heap.size, 2, none⟩ = some (.int .i64 q.r.tx) := (box_on (own_refl _)).1 2
            have b3 : (wr.alloc (.cells #[.int .u64 q.r.ts, .int .i64 q.r.dc, .int .i64 q.r.tx, .slice q.D q.r.vers.length q.c] 32)).cell? ⟨wr.heap.size, 3, none⟩ = some (.slice q.D q.r.vers.length q.c) := (box_on (own_refl _)).1 3
            go_wp2_with fail
            go_region_held3 (fun w' => Below wr.heap.size wr w' ∧ w'.cell? ⟨wr.heap.size, 0, none⟩ = some (.int .u64 q.r.ts) ∧ w'.cell? ⟨wr.heap.size, 1, none⟩ = some (.int .i64 q.r.dc) ∧ w'.cell? ⟨wr.heap.size, 2, none⟩ = some (.int .i64 q.r.tx) ∧ w'.cell? ⟨wr.heap.size, 3, none⟩ = some (.slice q.D q.r.vers.length q.c) ∧ w'.cell? ⟨ga, oa + k * 4, none⟩ = some (.int .u64 o.r.ts) ∧ w'.cell? ⟨ga, oa + k * 4 + 1, none⟩ = some (.int .i64 o.r.dc) ∧ w'.cell? ⟨ga, oa + k * 4 + 2, none⟩ = some (.int .i64 o.r.tx) ∧ w'.cell? ⟨ga, oa + k * 4 + 3, none⟩ = some (.slice o.D o.r.vers.length o.c))
                (first | exact ⟨own_drew (own_alloc (own_refl _) _), b0, b1, b2, b3, z0, z1, z2, z3⟩ | (refine ⟨own_drew (own_alloc (own_refl _) _), ?_, ?_, ?_, ?_, ?_, ?_, ?_, ?_⟩ <;> (go_simp; done)) | (go_split_ands; refine ⟨below_own (by assumption) (by assumption), ?_, ?_, ?_, ?_, ?_, ?_, ?_, ?_⟩ <;> exact cell_on (by assumption) (by assumption)))
                ((go_at_call 21; refine (mark_any _ _ _ _ _).mono ?_; rintro e w2 ⟨rfl, hb2⟩))
            rename_i hSS
            have hb3 := hSS.1
            clear hSS
            go_wp2
            go_roundw
            case rel => exact ⟨j + 1, by omega, by go_num, fun a ha => by
              rw [List.take_succ_eq_append_getElem hjl] at ha
              rcases List.mem_append.1 ha with h | h
              · exact HNO.out a h
              · rw [List.mem_singleton.1 h, (List.getElem?_eq_some_iff.1 HQ.out).2]; exact HKK.out, below_own hbi hb3⟩
            case measure => simp [intOf]; omega
        · obtain rfl : j = L.length := by omega
          rw [List.take_length] at hno
          have HNO := Lib.hid hno
          have hlf : min o.r.vers.length 12 = o.r.few.vers.length := by show _ = (o.r.vers.take 12).length; rw [List.length_take]; omega
          have HLF0 := Lib.hid hlf
          have hnn := HW.out.nn
          have hfit := HW.out.fit
          have hle := HW.out.le
          have HNN := Lib.hid hnn
          have hbase : w.heap.size ≤ wr.heap.size := (below_own hbk hbi).size
          have hones := one_q ⟨o.r.few, o.D, o.c⟩
          have hL40 : L.length ≤ 40 := by omega
          clear hno hlf hnn
          go_wp2_with (first
            | (go_at_call 10; refine (few_any o.r _ _ _ _ rfl hle hfit HNN.out).mono ?_; rintro e w2 ⟨rfl, hb2⟩; rw [HLF0.out])
            | (at_builtin; refine wpList_append_cells _ rfl _ _ 26 rfl w.heap.size 32 i0 (.agg #[.int .u64 0, .int .i64 0, .int .i64 0, .slice none 0 0]) 4 48 Try.underlying26 hi0 hz0 hz1 hz2 rfl (by omega) _ _ _ rfl (own_on (own_on hri hb2) (own_alloc (own_refl _) _)) _ 1 _ [.int .u64 o.r.ts, .int .i64 o.r.dc, .int .i64 o.r.tx, .slice o.D o.r.few.vers.length o.c] rfl rfl (Cells.new w2 #[.int .u64 o.r.ts, .int .i64 o.r.dc, .int .i64 o.r.tx, .slice o.D o.r.few.vers.length o.c] 32) hones (by unfold maxLen; omega) (by omega) (by have := hb2.size; simp; omega) ?_; intro D5 cp5 w5 hown5 hgrow5))
          have hrow2 := own_on hri hb2
          have hb5 : Below w.heap.size w w5 := below_grown (own_alloc (below_own (below_own hbk hbi) hb2) _) (own_on hrow2 (own_alloc (own_refl _) _)) (Nat.le_refl _) hgrow5
          go_roundw
          case rel =>
            refine ⟨k + 1, L ++ [⟨o.r.few, o.D, o.c⟩], D5, cp5, by omega, by omega, by go_num, by rw [List.length_append]; rfl, ?_, by rw [List.length_append]; simp; omega, ?_, ?_, hb5⟩
            · rw [List.length_append, flatQ_app]; exact hown5
            · rw [List.map_append]
              refine apart_more HAP.out fun a ha => ?_
              obtain ⟨q, hq, rfl⟩ := List.mem_map.1 ha
              exact HNO.out q hq
            · intro q hq
              rcases List.mem_append.1 hq with h | h
              · exact HFED.out q h
              · rw [List.mem_singleton.1 h]
                exact ⟨few_len _, Cells.takeG (cf := V.cells) HW.out.D 12, HW.out.ts.2⟩
          case measure => simp [intOf]; omega
    · have hke : k = n ∨ k = 40 := by omega
      by_cases hkn : k < n
      · have hd : decide ((k : Int) < 40) = false := by simp; omega
        have hd2 : (k : Int) < (n : Int) := by omega
        have hd3 : ¬ (k : Int) < 40 := by omega
        have hLk' : L.length ≤ 40 := by omega
        clear hke hlt
        go_wp2_with fail
        have hL40 : L.length ≤ 40 := by omega
        obtain ⟨N, hN⟩ : ∃ N, L.length = N := ⟨_, rfl⟩
        rw [hN] at hrow hL40 ⊢
        have hfl : (flatQ L).length = N * 4 := by rw [flatQ_len, hN]
        have HFL := Lib.hid hfl
        have HN := Lib.hid hN
        have HAP := Lib.hid hap
        have HFED := Lib.hid hfed
        clear hap hfed hLk hk hk40 hN hfl
        refine (lnew_any wr).mono ?_
        rintro e w1 ⟨ba, rfl, hba, hLa, hb1⟩
        go_wp2_with fail
        refine (lnew_any w1).mono ?_
        rintro e w2 ⟨bb, rfl, hbb, hLb, hb2⟩
        have hrow2 := own_on (own_on hrow hb1) hb2
        obtain ⟨Ba, hBa⟩ : ∃ Ba, wr.heap.size = Ba := ⟨_, rfl⟩
        obtain ⟨Bb, hBb⟩ : ∃ Bb, w1.heap.size = Bb := ⟨_, rfl⟩
        have hlowr : ∀ g, (Value.slice Dr N cr).ownBlock = some g → g < Ba := fun g hg => by have := (hrow.lt g hg).2; omega
        have hsz1 := hb1.size
        have hsz2 := hb2.size
        have hw2 : Below w.heap.size w w2 := below_own (below_own hbel hb1) hb2
        have hbaW := hLa.blt
        have hbbW := hLb.blt
        have hwsz := hbel.size
        rw [hBa] at hba hLa hsz1 hwsz
        rw [hBb] at hbb hLb hsz1 hsz2 hbaW
        have hLa2 := hLa.on hb2
        have hss : ∀ g, logS ba (.slice none 0 0) (.slice none 0 0) g → g = ba := by rintro g (e | e | e); exact e; cases e; cases e
        have hst : ∀ g, logS bb (.slice none 0 0) (.slice none 0 0) g → g = bb := by rintro g (e | e | e); exact e; cases e; cases e
        clear hrow hb1 hb2 hLa hbel hBa hBb
        go_wp2_with (at_builtin; refine wpList_append_cells _ rfl _ _ 26 rfl w2.heap.size 32 i0 (.agg #[.int .u64 0, .int .i64 0, .int .i64 0, .slice none 0 0]) 4 48 Try.underlying26 hi0 hz0 hz1 hz2 rfl (by omega) _ _ _ rfl (own_empty w2 32 4) _ N _ (flatQ L) rfl HFL.out ((Cells.of_own hrow2).on (own_alloc (own_refl _) _)) (one_fq _) (by unfold maxLen; omega) (by omega) (by simp) ?_; intro D0 cp0 w3 hown3 hgrow3; simp only [Nat.zero_add, List.nil_append] at hown3)
        have hb3 : Below w2.heap.size w2 w3 := below_grown (own_alloc (own_refl w2) _) (own_empty w2 32 4) (Nat.le_refl _) hgrow3
        go_loopw [65] (fun i wr => ∃ (k : Nat) (M : List Q), k ≤ m ∧ i = .int .i64 k ∧ M.Perm L ∧ wr.ownsRow w2.heap.size 32 4 (.slice D0 N cp0) N (flatQ M) ∧ Below w2.heap.size w2 wr) (fun i _ => m - (intOf i).toNat)
        case atStart => exact ⟨0, L, Nat.zero_le _, rfl, List.Perm.refl _, hown3, hb3⟩
        case round =>
          obtain ⟨k, M, hk, rfl, hP, hM, hbel⟩ := hrel
          by_cases hlt : k < m
          · obtain ⟨p, hp⟩ : ∃ p, zs[k]? = some p := ⟨_, List.getElem?_eq_getElem (by omega)⟩
            obtain ⟨sb, so, rfl, p0, p1⟩ := cells_p2 ((hS.on hw2).on hbel) hp
            have g3 : (0 : Int) ≤ (k : Int) := by omega
            have g4 : (k : Int) < (m : Int) := by omega
            by_cases hpos : 0 < N
            · have g5 : (0 : Int) < (N : Int) := by omega
              obtain ⟨i, hi, hiN⟩ := rem_in p.a hpos (by omega)
              obtain ⟨j, hj, hjN⟩ := rem_in p.b hpos (by omega)
              obtain ⟨g, rfl, hg0, hg1⟩ := row_some hM hpos
              obtain ⟨x, hx⟩ : ∃ x, M[i]? = some x := ⟨_, List.getElem?_eq_getElem (by rw [hP.length_eq, HN.out]; exact hiN)⟩
              obtain ⟨y, hy⟩ : ∃ y, M[j]? = some y := ⟨_, List.getElem?_eq_getElem (by rw [hP.length_eq, HN.out]; exact hjN)⟩
              go_wp2_with fail
              go_quiet (fail)
              have hMq := row_drewN (hM.alloc (.cells #[.int .i64 p.a, .int .i64 p.b] 53)) nq
              have hbq := own_drewN (own_alloc hbel (.cells #[.int .i64 p.a, .int .i64 p.b] 53)) nq
              obtain ⟨wq, hwq⟩ : ∃ wq, (wr.alloc (.cells #[.int .i64 p.a, .int .i64 p.b] 53)).drewN nq = wq := ⟨_, rfl⟩
              rw [hwq] at hMq hbq ⊢
              have HI := Lib.hid hi
              have HJ := Lib.hid hj
              try rw [hi]
              try rw [hj]
              clear hwq hi hj
              have k1 : (0 : Int) ≤ (i : Int) := by omega
              have k2 : (i : Int) < (N : Int) := by omega
              have k3 : (0 : Int) ≤ (j : Int) := by omega
              have k4 : (j : Int) < (N : Int) := by omega
              obtain ⟨x0, x1, x2, x3⟩ := row_q hMq hx
              obtain ⟨y0, y1, y2, y3⟩ := row_q hMq hy
              have f : ∀ q, wq.frozen? ⟨g, q, none⟩ = false := fun q => hMq.frozenAt q
              have hiM : i < M.length := (List.getElem?_eq_some_iff.1 hx).1
              have hjM : j < M.length := (List.getElem?_eq_some_iff.1 hy).1
              have hsw := swap_some hx hy
              have HSW := Lib.hid hsw
              have HX := Lib.hid hx
              have HY := Lib.hid hy
              clear hsw hy hx
              by_cases hij : i = j
              · subst hij
                obtain rfl : x = y := by have := HY.out; rw [HX.out] at this; injection this
                clear y0 y1 y2 y3
                go_wp2_with fail
                go_region
                go_wp2
                go_roundw
                case rel => exact ⟨k + 1, swapQ M i i, by omega, by go_num, (swapQ_perm M i i).trans hP, by rw [HSW.out]; exact (four_row (four_row hMq hiM x) (by simpa using hiM) x).drew, own_drew (four_below (four_below hbq hg0 x) hg0 x)⟩
                case measure => simp [intOf]; omega
              · go_wp2_with fail
                go_region
                go_wp2
                go_roundw
                case rel => exact ⟨k + 1, swapQ M i j, by omega, by go_num, (swapQ_perm M i j).trans hP, by rw [HSW.out]; exact (four_row (four_row hMq hiM y) (by simpa using hjM) x).drew, own_drew (four_below (four_below hbq hg0 y) hg0 x)⟩
                case measure => simp [intOf]; omega
            · obtain rfl : N = 0 := by omega
              go_wp2
              go_roundw
              case rel => exact ⟨k + 1, M, by omega, by go_num, hP, hM.alloc _, own_alloc hbel _⟩
              case measure => simp [intOf]; omega
          · obtain rfl : k = m := by omega
            have hML : M.length = N := by rw [hP.length_eq, HN.out]
            have HML := Lib.hid hML
            have HP := Lib.hid hP
            clear hML hP hlt
            go_wp2_with fail
            obtain ⟨W0, hW0⟩ : ∃ W0, wr = W0 := ⟨_, rfl⟩
            rw [hW0] at hM hbel ⊢
            clear hW0
            have hrow0 := own_on hrow2 hbel
            have hwW : Below w.heap.size w W0 := below_own hw2 hbel
            have hsz0 := hbel.size
            have hT0 : Two W0 W0 Ba Bb ba bb (.slice none 0 0) (.slice none 0 0) (.slice none 0 0) (.slice none 0 0) [] [] [] [] lg0 lg0 := ⟨hLa2.on hbel, hLb.on hbel, fun g e => .inl (hss g e), fun g e => .inl (hst g e), fun g e e' => by have := hss g e; have := hst g e'; omega, Turns.refl _ _⟩
            have hnr : ∀ g, (Value.slice Dr N cr).ownBlock = some g → ¬ (g = ba ∨ g = bb) := fun g hg => by have := hlowr g hg; omega
            have hnm : ∀ g, (Value.slice D0 N cp0).ownBlock = some g → ¬ (g = ba ∨ g = bb) := fun g hg => by have := (hM.lt g hg).1; omega
            have HPM := Lib.hid (HP.out.map Q.r)
            clear hrow2 hLa2 hLb hss hst hown3 hgrow3 hb3 hS hbel hlowr
            go_loopw [105] (fun i wr => ∃ (j : Nat) (va wa vb wb : Value) (La Ma Lb Mb : List Q) (xa xb : Lg), j ≤ N ∧ i = .int .i64 j ∧ Two W0 wr Ba Bb ba bb va wa vb wb La Ma Lb Mb xa xb ∧ Took xa (L.map Q.r) j ∧ Took xb (M.map Q.r) j) (fun i _ => N - (intOf i).toNat)
            case atStart => exact ⟨0, _, _, _, _, _, _, _, _, _, _, Nat.zero_le _, rfl, hT0, Took.new _, Took.new _⟩
            case round =>
              obtain ⟨j, va, wa, vb, wb, La, Ma, Lb, Mb, xa, xb, hj, rfl, h2, hta, htb⟩ := hrel
              have hlowT : ∀ g, g = ba ∨ g = bb → w.heap.size ≤ g := by rintro g (e | e) <;> omega
              have hbw : Below w.heap.size w wr := h2.t.below hwW hlowT
              have hszr := h2.t.size
              have HTA := Lib.hid hta
              have HTB := Lib.hid htb
              clear hta htb
              by_cases hjl : j < N
              · obtain ⟨q, hq⟩ : ∃ q, L[j]? = some q := ⟨_, List.getElem?_eq_getElem (by rw [HN.out]; exact hjl)⟩
                obtain ⟨p, hp⟩ : ∃ p, M[j]? = some p := ⟨_, List.getElem?_eq_getElem (by rw [HML.out]; exact hjl)⟩
                have fq := Lib.hid (HFED.out q (List.mem_of_getElem? hq))
                have fp := Lib.hid (HFED.out p (HP.out.mem_iff.1 (List.mem_of_getElem? hp)))
                have hqr := Lib.hid (show (L.map Q.r)[j]? = some q.r by rw [List.getElem?_map, hq]; rfl)
                have hpr := Lib.hid (show (M.map Q.r)[j]? = some p.r by rw [List.getElem?_map, hp]; rfl)
                obtain ⟨gr, rfl, _, _⟩ := row_some hrow0 (by omega)
                obtain ⟨gm, rfl, _, _⟩ := row_some hM (by omega)
                obtain ⟨q0, q1, q2, q3⟩ := row_q (h2.t.row hrow0 hnr) hq
                have p1 : (0 : Int) ≤ (j : Int) := by omega
                have p2 : (j : Int) < (N : Int) := by omega
                have HPp := Lib.hid hp
                clear hq hp
                go_wp2_with fail
                refine (dec_any wr Ba ba va wa La Ma xa h2.a q.r q.D q.c HTA.out.fine.ok (by have := HTA.out.fine.n; omega) (by have := fq.out.few; omega) (fq.out.D.on hbw) (by omega)).mono ?_
                rintro e w5 ⟨va', wa', La', Ma', xa', hP5, hL5, hT5, hO5⟩
                obtain ⟨er, rfl⟩ := decR_form hP5
                have HTA' := Lib.hid (HTA.out.dec HAP.out (by omega) hqr.out fq.out.few fq.out.ts hP5)
                have h5 := h2.step hL5 hT5 hO5
                have hbw5 : Below w.heap.size w w5 := h5.t.below hwW hlowT
                have hsz5 := h5.t.size
                obtain ⟨y0, y1, y2, y3⟩ := row_q (h5.t.row hM hnm) HPp.out
                clear hP5 hL5 hT5 hO5 q0 q1 q2 q3
                go_wp2_with fail
                refine (dec_any w5 Bb bb vb wb Lb Mb xb h5.b p.r p.D p.c HTB.out.fine.ok (by have := HTB.out.fine.n; omega) (by have := fp.out.few; omega) (fp.out.D.on hbw5) (by omega)).mono ?_
                rintro e w6 ⟨vb', wb', Lb', Mb', xb', hP6, hL6, hT6, hO6⟩
                obtain ⟨es, rfl⟩ := decR_form hP6
                have HTB' := Lib.hid (HTB.out.dec (apart_perm HAP.out HPM.out) (by omega) hpr.out fp.out.few fp.out.ts hP6)
                have h6 := (h5.symm.step hL6 hT6 hO6).symm
                clear hP6 hL6 hT6 hO6 y0 y1 y2 y3
                go_wp2_with fail
                go_roundw
                case rel => exact ⟨j + 1, _, _, _, _, _, _, _, _, _, _, by omega, by go_num, h6, HTA'.out, HTB'.out⟩
                case measure => simp [intOf]; omega
              · obtain rfl : j = N := by omega
                obtain rfl : xa = xb := Took.same HTA.out HTB.out HPM.out (by rw [List.length_map, HN.out])
                have HLT := Lib.hid HTA.out.fine
                clear HTA HTB hjl
                go_wp2_with (go_at_call 17; refine (awake_any _).mono ?_; rintro e w7 ⟨rfl, hb7⟩)
                have h7 := h2.on hb7
                have hsz7 := hb7.size
                refine (release_any w7 Ba ba va wa La Ma xa h7.a (by have := HLT.out.ok.l1; omega) t (by omega)).mono ?_
                rintro e w8 ⟨va', wa', La', Ma', xa', ⟨rfl, hxa⟩, hL8, hT8, hO8⟩
                have h8 := h7.step hL8 hT8 hO8
                have hsz8 := hT8.size
                have HXA := Lib.hid hxa
                clear hL8 hT8 hO8 hxa
                go_wp2_with fail
                refine (release_any w8 Bb bb vb wb Lb Mb xa h8.b (by have := HLT.out.ok.l1; omega) t (by omega)).mono ?_
                rintro e w9 ⟨vb', wb', Lb', Mb', xb', ⟨rfl, hxb⟩, hL9, hT9, hO9⟩
                obtain rfl : xb' = xa' := by rw [hxb, HXA.out]
                have h9 := (h8.symm.step hL9 hT9 hO9).symm
                have hLF : LFine xb' (j + 1) := by rw [HXA.out]; exact HLT.out.rel ht
                have HLF := Lib.hid hLF
                have hlen3 : xb'.list.length ≤ 200 := by have := HLF.out.ok.l1; omega
                have hfew3 : ∀ r ∈ xb'.list, r.vers.length ≤ 12 := fun r hr => HLF.out.ok.few r (.inl hr)
                have st0 : (if (0 : Int) < 0 then 0 else (0 : Int)) = ((0 : Nat) : Int) := by simp
                clear hxb hLF hL9 hT9 hO9
                go_wp2_with fail
                refine (waiting_any w9 Ba ba va' wa' La' Ma' xb' h9.a).mono ?_
                rintro e w9' ⟨rfl, rfl⟩
                go_wp2_with fail
                refine (waiting_any w9 Bb bb vb' wb' Lb' Mb' xb' h9.b).mono ?_
                rintro e w9' ⟨rfl, rfl⟩
                go_wp2_with fail
                refine (stable_any w9 Ba ba va' wa' La' Ma' xb' h9.a 0 0 rfl hlen3 hfew3).mono ?_
                rintro e w10 ⟨D1, cp1, K1, rfl, hrow1, hmr1, hq1, hb10⟩
                rw [List.drop_zero] at hrow1 hmr1 ⊢
                have h10 := h9.on hb10
                go_wp2_with fail
                refine (stable_any w10 Bb bb vb' wb' Lb' Mb' xb' h10.b 0 0 rfl hlen3 hfew3).mono ?_
                rintro e w11 ⟨D2, cp2, K2, rfl, hrow2, hmr2, hq2, hb11⟩
                rw [List.drop_zero] at hrow2 hmr2 ⊢
                have h11 := h10.on hb11
                have hk1 : K1.length = xb'.list.length := by rw [← hmr1, List.length_map]
                have HSM := Lib.hid (same_list D1 D2 xb'.list.length cp1 cp2 K1 K2 w11 hk1 (by omega) (Cells.of_own (own_on hrow1 hb11)) (Cells.of_own hrow2) (by rw [hmr1, hmr2]) (fun q hq => (hq1 q hq).on hb11) hq2 (fun q hq => Nat.le_trans (hfew3 q.r (by rw [← hmr1]; exact List.mem_map_of_mem hq)) (by omega)))
                clear hmr1 hmr2 hk1 hq1 hq2
                go_wp2_with fail
                refine HSM.out.mono ?_
                rintro e w12 ⟨rfl, hb12⟩
                have h12 := h11.on hb12
                have hbw12 : Below w.heap.size w w12 := h12.t.below hwW hlowT
                go_wp2_with fail
                rw [Exit.noGoto_ret]
                go_ret
                exact ⟨rfl, hbw12⟩
      · have hd3 : ¬ (k : Int) < (n : Int) := by omega
        have hLk' : L.length ≤ 40 := by omega
        clear hke hlt
        go_wp2_with fail
        have hL40 : L.length ≤ 40 := by omega
        obtain ⟨N, hN⟩ : ∃ N, L.length = N := ⟨_, rfl⟩
        rw [hN] at hrow hL40 ⊢
        have hfl : (flatQ L).length = N * 4 := by rw [flatQ_len, hN]
        have HFL := Lib.hid hfl
        have HN := Lib.hid hN
        have HAP := Lib.hid hap
        have HFED := Lib.hid hfed
        clear hap hfed hLk hk hk40 hN hfl
        refine (lnew_any wr).mono ?_
        rintro e w1 ⟨ba, rfl, hba, hLa, hb1⟩
        go_wp2_with fail
        refine (lnew_any w1).mono ?_
        rintro e w2 ⟨bb, rfl, hbb, hLb, hb2⟩
        have hrow2 := own_on (own_on hrow hb1) hb2
        obtain ⟨Ba, hBa⟩ : ∃ Ba, wr.heap.size = Ba := ⟨_, rfl⟩
        obtain ⟨Bb, hBb⟩ : ∃ Bb, w1.heap.size = Bb := ⟨_, rfl⟩
        have hlowr : ∀ g, (Value.slice Dr N cr).ownBlock = some g → g < Ba := fun g hg => by have := (hrow.lt g hg).2; omega
        have hsz1 := hb1.size
        have hsz2 := hb2.size
        have hw2 : Below w.heap.size w w2 := below_own (below_own hbel hb1) hb2
        have hbaW := hLa.blt
        have hbbW := hLb.blt
        have hwsz := hbel.size
        rw [hBa] at hba hLa hsz1 hwsz
        rw [hBb] at hbb hLb hsz1 hsz2 hbaW
        have hLa2 := hLa.on hb2
        have hss : ∀ g, logS ba (.slice none 0 0) (.slice none 0 0) g → g = ba := by rintro g (e | e | e); exact e; cases e; cases e
        have hst : ∀ g, logS bb (.slice none 0 0) (.slice none 0 0) g → g = bb := by rintro g (e | e | e); exact e; cases e; cases e
        clear hrow hb1 hb2 hLa hbel hBa hBb
        go_wp2_with (at_builtin; refine wpList_append_cells _ rfl _ _ 26 rfl w2.heap.size 32 i0 (.agg #[.int .u64 0, .int .i64 0, .int .i64 0, .slice none 0 0]) 4 48 Try.underlying26 hi0 hz0 hz1 hz2 rfl (by omega) _ _ _ rfl (own_empty w2 32 4) _ N _ (flatQ L) rfl HFL.out ((Cells.of_own hrow2).on (own_alloc (own_refl _) _)) (one_fq _) (by unfold maxLen; omega) (by omega) (by simp) ?_; intro D0 cp0 w3 hown3 hgrow3; simp only [Nat.zero_add, List.nil_append] at hown3)
        have hb3 : Below w2.heap.size w2 w3 := below_grown (own_alloc (own_refl w2) _) (own_empty w2 32 4) (Nat.le_refl _) hgrow3
        go_loopw [65] (fun i wr => ∃ (k : Nat) (M : List Q), k ≤ m ∧ i = .int .i64 k ∧ M.Perm L ∧ wr.ownsRow w2.heap.size 32 4 (.slice D0 N cp0) N (flatQ M) ∧ Below w2.heap.size w2 wr) (fun i _ => m - (intOf i).toNat)
        case atStart => exact ⟨0, L, Nat.zero_le _, rfl, List.Perm.refl _, hown3, hb3⟩
        case round =>
          obtain ⟨k, M, hk, rfl, hP, hM, hbel⟩ := hrel
          by_cases hlt : k < m
          · obtain ⟨p, hp⟩ : ∃ p, zs[k]? = some p := ⟨_, List.getElem?_eq_getElem (by omega)⟩
            obtain ⟨sb, so, rfl, p0, p1⟩ := cells_p2 ((hS.on hw2).on hbel) hp
            have g3 : (0 : Int) ≤ (k : Int) := by omega
            have g4 : (k : Int) < (m : Int) := by omega
            by_cases hpos : 0 < N
            · have g5 : (0 : Int) < (N : Int) := by omega
              obtain ⟨i, hi, hiN⟩ := rem_in p.a hpos (by omega)
              obtain ⟨j, hj, hjN⟩ := rem_in p.b hpos (by omega)
              obtain ⟨g, rfl, hg0, hg1⟩ := row_some hM hpos
              obtain ⟨x, hx⟩ : ∃ x, M[i]? = some x := ⟨_, List.getElem?_eq_getElem (by rw [hP.length_eq, HN.out]; exact hiN)⟩
              obtain ⟨y, hy⟩ : ∃ y, M[j]? = some y := ⟨_, List.getElem?_eq_getElem (by rw [hP.length_eq, HN.out]; exact hjN)⟩
              go_wp2_with fail
              go_quiet (fail)
              have hMq := row_drewN (hM.alloc (.cells #[.int .i64 p.a, .int .i64 p.b] 53)) nq
              have hbq := own_drewN (own_alloc hbel (.cells #[.int .i64 p.a, .int .i64 p.b] 53)) nq
              obtain ⟨wq, hwq⟩ : ∃ wq, (wr.alloc (.cells #[.int .i64 p.a, .int .i64 p.b] 53)).drewN nq = wq := ⟨_, rfl⟩
              rw [hwq] at hMq hbq ⊢
              have HI := Lib.hid hi
              have HJ := Lib.hid hj
              try rw [hi]
              try rw [hj]
              clear hwq hi hj
              have k1 : (0 : Int) ≤ (i : Int) := by omega
              have k2 : (i : Int) < (N : Int) := by omega
              have k3 : (0 : Int) ≤ (j : Int) := by omega
              have k4 : (j : Int) < (N : Int) := by omega
              obtain ⟨x0, x1, x2, x3⟩ := row_q hMq hx
              obtain ⟨y0, y1, y2, y3⟩ := row_q hMq hy
              have f : ∀ q, wq.frozen? ⟨g, q, none⟩ = false := fun q => hMq.frozenAt q
              have hiM : i < M.length := (List.getElem?_eq_some_iff.1 hx).1
              have hjM : j < M.length := (List.getElem?_eq_some_iff.1 hy).1
              have hsw := swap_some hx hy
              have HSW := Lib.hid hsw
              have HX := Lib.hid hx
              have HY := Lib.hid hy
              clear hsw hy hx
              by_cases hij : i = j
              · subst hij
                obtain rfl : x = y := by have := HY.out; rw [HX.out] at this; injection this
                clear y0 y1 y2 y3
                go_wp2_with fail
                go_region
                go_wp2
                go_roundw
                case rel => exact ⟨k + 1, swapQ M i i, by omega, by go_num, (swapQ_perm M i i).trans hP, by rw [HSW.out]; exact (four_row (four_row hMq hiM x) (by simpa using hiM) x).drew, own_drew (four_below (four_below hbq hg0 x) hg0 x)⟩
                case measure => simp [intOf]; omega
              · go_wp2_with fail
                go_region
                go_wp2
                go_roundw
                case rel => exact ⟨k + 1, swapQ M i j, by omega, by go_num, (swapQ_perm M i j).trans hP, by rw [HSW.out]; exact (four_row (four_row hMq hiM y) (by simpa using hjM) x).drew, own_drew (four_below (four_below hbq hg0 y) hg0 x)⟩
                case measure => simp [intOf]; omega
            · obtain rfl : N = 0 := by omega
              go_wp2
              go_roundw
              case rel => exact ⟨k + 1, M, by omega, by go_num, hP, hM.alloc _, own_alloc hbel _⟩
              case measure => simp [intOf]; omega
          · obtain rfl : k = m := by omega
            have hML : M.length = N := by rw [hP.length_eq, HN.out]
            have HML := Lib.hid hML
            have HP := Lib.hid hP
            clear hML hP hlt
            go_wp2_with fail
            obtain ⟨W0, hW0⟩ : ∃ W0, wr = W0 := ⟨_, rfl⟩
            rw [hW0] at hM hbel ⊢
            clear hW0
            have hrow0 := own_on hrow2 hbel
            have hwW : Below w.heap.size w W0 := below_own hw2 hbel
            have hsz0 := hbel.size
            have hT0 : Two W0 W0 Ba Bb ba bb (.slice none 0 0) (.slice none 0 0) (.slice none 0 0) (.slice none 0 0) [] [] [] [] lg0 lg0 := ⟨hLa2.on hbel, hLb.on hbel, fun g e => .inl (hss g e), fun g e => .inl (hst g e), fun g e e' => by have := hss g e; have := hst g e'; omega, Turns.refl _ _⟩
            have hnr : ∀ g, (Value.slice Dr N cr).ownBlock = some g → ¬ (g = ba ∨ g = bb) := fun g hg => by have := hlowr g hg; omega
            have hnm : ∀ g, (Value.slice D0 N cp0).ownBlock = some g → ¬ (g = ba ∨ g = bb) := fun g hg => by have := (hM.lt g hg).1; omega
            have HPM := Lib.hid (HP.out.map Q.r)
            clear hrow2 hLa2 hLb hss hst hown3 hgrow3 hb3 hS hbel hlowr
            go_loopw [105] (fun i wr => ∃ (j : Nat) (va wa vb wb : Value) (La Ma Lb Mb : List Q) (xa xb : Lg), j ≤ N ∧ i = .int .i64 j ∧ Two W0 wr Ba Bb ba bb va wa vb wb La Ma Lb Mb xa xb ∧ Took xa (L.map Q.r) j ∧ Took xb (M.map Q.r) j) (fun i _ => N - (intOf i).toNat)
            case atStart => exact ⟨0, _, _, _, _, _, _, _, _, _, _, Nat.zero_le _, rfl, hT0, Took.new _, Took.new _⟩
            case round =>
              obtain ⟨j, va, wa, vb, wb, La, Ma, Lb, Mb, xa, xb, hj, rfl, h2, hta, htb⟩ := hrel
              have hlowT : ∀ g, g = ba ∨ g = bb → w.heap.size ≤ g := by rintro g (e | e) <;> omega
              have hbw : Below w.heap.size w wr := h2.t.below hwW hlowT
              have hszr := h2.t.size
              have HTA := Lib.hid hta
              have HTB := Lib.hid htb
              clear hta htb
              by_cases hjl : j < N
              · obtain ⟨q, hq⟩ : ∃ q, L[j]? = some q := ⟨_, List.getElem?_eq_getElem (by rw [HN.out]; exact hjl)⟩
                obtain ⟨p, hp⟩ : ∃ p, M[j]? = some p := ⟨_, List.getElem?_eq_getElem (by rw [HML.out]; exact hjl)⟩
                have fq := Lib.hid (HFED.out q (List.mem_of_getElem? hq))
                have fp := Lib.hid (HFED.out p (HP.out.mem_iff.1 (List.mem_of_getElem? hp)))
                have hqr := Lib.hid (show (L.map Q.r)[j]? = some q.r by rw [List.getElem?_map, hq]; rfl)
                have hpr := Lib.hid (show (M.map Q.r)[j]? = some p.r by rw [List.getElem?_map, hp]; rfl)
                obtain ⟨gr, rfl, _, _⟩ := row_some hrow0 (by omega)
                obtain ⟨gm, rfl, _, _⟩ := row_some hM (by omega)
                obtain ⟨q0, q1, q2, q3⟩ := row_q (h2.t.row hrow0 hnr) hq
                have p1 : (0 : Int) ≤ (j : Int) := by omega
                have p2 : (j : Int) < (N : Int) := by omega
                have HPp := Lib.hid hp
                clear hq hp
                go_wp2_with fail
                refine (dec_any wr Ba ba va wa La Ma xa h2.a q.r q.D q.c HTA.out.fine.ok (by have := HTA.out.fine.n; omega) (by have := fq.out.few; omega) (fq.out.D.on hbw) (by omega)).mono ?_
                rintro e w5 ⟨va', wa', La', Ma', xa', hP5, hL5, hT5, hO5⟩
                obtain ⟨er, rfl⟩ := decR_form hP5
                have HTA' := Lib.hid (HTA.out.dec HAP.out (by omega) hqr.out fq.out.few fq.out.ts hP5)
                have h5 := h2.step hL5 hT5 hO5
                have hbw5 : Below w.heap.size w w5 := h5.t.below hwW hlowT
                have hsz5 := h5.t.size
                obtain ⟨y0, y1, y2, y3⟩ := row_q (h5.t.row hM hnm) HPp.out
                clear hP5 hL5 hT5 hO5 q0 q1 q2 q3
                go_wp2_with fail
                refine (dec_any w5 Bb bb vb wb Lb Mb xb h5.b p.r p.D p.c HTB.out.fine.ok (by have := HTB.out.fine.n; omega) (by have := fp.out.few; omega) (fp.out.D.on hbw5) (by omega)).mono ?_
                rintro e w6 ⟨vb', wb', Lb', Mb', xb', hP6, hL6, hT6, hO6⟩
                obtain ⟨es, rfl⟩ := decR_form hP6
                have HTB' := Lib.hid (HTB.out.dec (apart_perm HAP.out HPM.out) (by omega) hpr.out fp.out.few fp.out.ts hP6)
                have h6 := (h5.symm.step hL6 hT6 hO6).symm
                clear hP6 hL6 hT6 hO6 y0 y1 y2 y3
                go_wp2_with fail
                go_roundw
                case rel => exact ⟨j + 1, _, _, _, _, _, _, _, _, _, _, by omega, by go_num, h6, HTA'.out, HTB'.out⟩
                case measure => simp [intOf]; omega
              · obtain rfl : j = N := by omega
                obtain rfl : xa = xb := Took.same HTA.out HTB.out HPM.out (by rw [List.length_map, HN.out])
                have HLT := Lib.hid HTA.out.fine
                clear HTA HTB hjl
                go_wp2_with (go_at_call 17; refine (awake_any _).mono ?_; rintro e w7 ⟨rfl, hb7⟩)
                have h7 := h2.on hb7
                have hsz7 := hb7.size
                refine (release_any w7 Ba ba va wa La Ma xa h7.a (by have := HLT.out.ok.l1; omega) t (by omega)).mono ?_
                rintro e w8 ⟨va', wa', La', Ma', xa', ⟨rfl, hxa⟩, hL8, hT8, hO8⟩
                have h8 := h7.step hL8 hT8 hO8
                have hsz8 := hT8.size
                have HXA := Lib.hid hxa
                clear hL8 hT8 hO8 hxa
                go_wp2_with fail
                refine (release_any w8 Bb bb vb wb Lb Mb xa h8.b (by have := HLT.out.ok.l1; omega) t (by omega)).mono ?_
                rintro e w9 ⟨vb', wb', Lb', Mb', xb', ⟨rfl, hxb⟩, hL9, hT9, hO9⟩
                obtain rfl : xb' = xa' := by rw [hxb, HXA.out]
                have h9 := (h8.symm.step hL9 hT9 hO9).symm
                have hLF : LFine xb' (j + 1) := by rw [HXA.out]; exact HLT.out.rel ht
                have HLF := Lib.hid hLF
                have hlen3 : xb'.list.length ≤ 200 := by have := HLF.out.ok.l1; omega
                have hfew3 : ∀ r ∈ xb'.list, r.vers.length ≤ 12 := fun r hr => HLF.out.ok.few r (.inl hr)
                have st0 : (if (0 : Int) < 0 then 0 else (0 : Int)) = ((0 : Nat) : Int) := by simp
                clear hxb hLF hL9 hT9 hO9
                go_wp2_with fail
                refine (waiting_any w9 Ba ba va' wa' La' Ma' xb' h9.a).mono ?_
                rintro e w9' ⟨rfl, rfl⟩
                go_wp2_with fail
                refine (waiting_any w9 Bb bb vb' wb' Lb' Mb' xb' h9.b).mono ?_
                rintro e w9' ⟨rfl, rfl⟩
                go_wp2_with fail
                refine (stable_any w9 Ba ba va' wa' La' Ma' xb' h9.a 0 0 rfl hlen3 hfew3).mono ?_
                rintro e w10 ⟨D1, cp1, K1, rfl, hrow1, hmr1, hq1, hb10⟩
                rw [List.drop_zero] at hrow1 hmr1 ⊢
                have h10 := h9.on hb10
                go_wp2_with fail
                refine (stable_any w10 Bb bb vb' wb' Lb' Mb' xb' h10.b 0 0 rfl hlen3 hfew3).mono ?_
                rintro e w11 ⟨D2, cp2, K2, rfl, hrow2, hmr2, hq2, hb11⟩
                rw [List.drop_zero] at hrow2 hmr2 ⊢
                have h11 := h10.on hb11
                have hk1 : K1.length = xb'.list.length := by rw [← hmr1, List.length_map]
                have HSM := Lib.hid (same_list D1 D2 xb'.list.length cp1 cp2 K1 K2 w11 hk1 (by omega) (Cells.of_own (own_on hrow1 hb11)) (Cells.of_own hrow2) (by rw [hmr1, hmr2]) (fun q hq => (hq1 q hq).on hb11) hq2 (fun q hq => Nat.le_trans (hfew3 q.r (by rw [← hmr1]; exact List.mem_map_of_mem hq)) (by omega)))
                clear hmr1 hmr2 hk1 hq1 hq2
                go_wp2_with fail
                refine HSM.out.mono ?_
                rintro e w12 ⟨rfl, hb12⟩
                have h12 := h11.on hb12
                have hbw12 : Below w.heap.size w w12 := h12.t.below hwW hlowT
                go_wp2_with fail
                rw [Exit.noGoto_ret]
                go_ret
                exact ⟨rfl, hbw12⟩
end Go.Proofs.Ytggbdjdfejcpjaa.lawOrderAlike
