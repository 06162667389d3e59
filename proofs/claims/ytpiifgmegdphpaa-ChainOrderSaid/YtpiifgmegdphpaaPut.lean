/-
  The walk of the program's Put. Conditions: the list's cells lie as the hypotheses say, and it is no longer than memory holds.
-/
import Derived.Test.YtpiifgmegdphpaaRput
import Derived.Test.YtpiifgmegdphpaaAppAny
import Derived.Test.YtpiifgmegdphpaaSortP
import Derived.Deep.RegionLaw
namespace Go.Proofs.Ytpiifgmegdphpaa
open Go.RowKit
set_option linter.unusedVariables false


theorem ins_at : ∀ (l : List V) (v : V) (m : Nat), anyGt (l.take m) v = false → (m = l.length ∨ ∃ y, l[m]? = some y ∧ vlt v y = true) → ins l v = l.take m ++ v :: l.drop m := by
  intro l v
  induction l with
  | nil =>
    intro m _ h
    rcases h with h | ⟨y, hy, _⟩
    · simp at h; subst h; rfl
    · simp at hy
  | cons x l ih =>
    intro m h1 h2
    cases m with
    | zero =>
      rcases h2 with h2 | ⟨y, hy, hv⟩
      · simp at h2
      · simp at hy; subst hy
        unfold ins; rw [if_pos hv]; rfl
    | succ m =>
      have hx : vlt v x = false := by
        unfold anyGt at h1
        simp only [List.take_succ_cons, List.any_cons, Bool.or_eq_false_iff] at h1
        exact h1.1
      have h1' : anyGt (l.take m) v = false := by
        unfold anyGt at h1 ⊢
        simp only [List.take_succ_cons, List.any_cons, Bool.or_eq_false_iff] at h1
        exact h1.2
      unfold ins
      rw [if_neg (by rw [hx]; simp), ih m h1' (by
        rcases h2 with h2 | ⟨y, hy, hv⟩
        · exact .inl (by simpa using h2)
        · exact .inr ⟨y, by simpa using hy, hv⟩)]
      rfl
theorem cells_grown {w w' : World} {b off : Nat} {xs : List Value} {g : Nat} (h : Cells w (some ⟨b, off, none⟩) xs) (hg : w.grownBy w' (some g)) (hne : b ≠ g) : Cells w' (some ⟨b, off, none⟩) xs := fun hx => by
  obtain ⟨b', off', e, hc⟩ := h hx
  injection e with e
  injection e with e1 e2
  subst e1 e2
  exact ⟨b, off, rfl, fun j u hu => hg.cell (hc j u hu) (by simpa using hne)⟩
/-- where the version goes, as far as the first k tell. -/
def AtIs (l : List V) (v : V) (k : Nat) (z : Int) : Prop := (z = -1 ∧ anyGt (l.take k) v = false) ∨ ∃ (a : Nat) (y : V), z = a ∧ a < k ∧ anyGt (l.take a) v = false ∧ l[a]? = some y ∧ vlt v y = true

set_option maxHeartbeats 4000000 in
theorem put_any (A : Option Addr) (n c : Nat) (l : List V) (v : V) (w : World) (hn : l.length = n) (hm : n ≤ 100000) (hcap : n ≤ c) (hA : Cells w A (flatV l)) :
    Calls Try.prog 20 #[.slice A n c, .agg #[.string v.key, .string v.val, .bool v.gone, .int .u64 v.ts, .int .i64 v.dc, .int .i64 v.tx]] w (PutIs l v w) := by
  obtain ⟨i0, hi0, hz0, hz1, hz2⟩ := info_parts infoVer
  go_enter Try.func20, Try.ntmps20
  go_wp2
  go_loopw [6, 13] (fun p i wr => ∃ (k : Nat) (z : Int), k ≤ n ∧ i = .int .i64 k ∧ p = .int .i64 z ∧ AtIs l v k z ∧ Below (w.alloc (.cells #[.string v.key, .string v.val, .bool v.gone, .int .u64 v.ts, .int .i64 v.dc, .int .i64 v.tx] 25)).heap.size (w.alloc (.cells #[.string v.key, .string v.val, .bool v.gone, .int .u64 v.ts, .int .i64 v.dc, .int .i64 v.tx] 25)) wr ∧ free (l.take k) v = true) (fun _ i _ => n - (intOf i).toNat)
  case atStart => exact ⟨0, -1, Nat.zero_le _, rfl, rfl, .inl ⟨rfl, rfl⟩, Below.refl _ _, rfl⟩
  case round =>
    obtain ⟨k, z, hk, rfl, rfl, hat, hbel, hfr⟩ := hrel
    have HFR := Lib.hid hfr
    clear hfr
    have hbw := below_box hbel
    by_cases hlt : k < n
    · obtain ⟨x, hx⟩ : ∃ x, l[k]? = some x := ⟨_, List.getElem?_eq_getElem (by omega)⟩
      obtain ⟨b, off, rfl, hc⟩ := (hA.on hbw).ver hx
      obtain ⟨x0, x1, x2, x3, x4, x5⟩ := hc k x hx
      have v0 : wr.cell? ⟨w.heap.size, 0, none⟩ = some (.string v.key) := (box_on hbel).1 0
      have v1 : wr.cell? ⟨w.heap.size, 1, none⟩ = some (.string v.val) := (box_on hbel).1 1
      have v2 : wr.cell? ⟨w.heap.size, 2, none⟩ = some (.bool v.gone) := (box_on hbel).1 2
      have v3 : wr.cell? ⟨w.heap.size, 3, none⟩ = some (.int .u64 v.ts) := (box_on hbel).1 3
      have v4 : wr.cell? ⟨w.heap.size, 4, none⟩ = some (.int .i64 v.dc) := (box_on hbel).1 4
      have v5 : wr.cell? ⟨w.heap.size, 5, none⟩ = some (.int .i64 v.tx) := (box_on hbel).1 5
      have hbl : b < wr.heap.size := World.block_lt_of_cell? _ _ x0
      have hbv : w.heap.size < wr.heap.size := World.block_lt_of_cell? _ _ v0
      clear hc
      cases hxv : vlt x v
      · cases hvx : vlt v x
        · have hvs : vsame x v = true := by unfold vsame; rw [hxv, hvx]; rfl
          have hcm := vcmp_zero hxv hvx
          have hq := ver_eq x v
          have hpl : putL l v = [] := by unfold putL; rw [if_neg (by rw [not_free hx hvs]; simp)]
          have hpe : putE l v = if veq x v = true then 8 else 3 := by unfold putE; rw [clash_at hx HFR.out hvs]
          have HVS := Lib.hid hvs
          have HPL := Lib.hid hpl
          have HPE := Lib.hid hpe
          clear hvs hpl hpe
          cases hve : veq x v
          all_goals
            rw [hve] at hq
            go_wp2_with fail
            go_region_held3 (fun w' => Below wr.heap.size wr w' ∧ w'.cell? ⟨wr.heap.size, 0, none⟩ = some (.string x.key) ∧ w'.cell? ⟨wr.heap.size, 1, none⟩ = some (.string x.val) ∧ w'.cell? ⟨wr.heap.size, 2, none⟩ = some (.bool x.gone) ∧ w'.cell? ⟨wr.heap.size, 3, none⟩ = some (.int .u64 x.ts) ∧ w'.cell? ⟨wr.heap.size, 4, none⟩ = some (.int .i64 x.dc) ∧ w'.cell? ⟨wr.heap.size, 5, none⟩ = some (.int .i64 x.tx) ∧ w'.cell? ⟨w.heap.size, 0, none⟩ = some (.string v.key) ∧ w'.cell? ⟨w.heap.size, 1, none⟩ = some (.string v.val) ∧ w'.cell? ⟨w.heap.size, 2, none⟩ = some (.bool v.gone) ∧ w'.cell? ⟨w.heap.size, 3, none⟩ = some (.int .u64 v.ts) ∧ w'.cell? ⟨w.heap.size, 4, none⟩ = some (.int .i64 v.dc) ∧ w'.cell? ⟨w.heap.size, 5, none⟩ = some (.int .i64 v.tx))
              (first | (refine ⟨own_drew (own_alloc (own_refl _) _), ?_, ?_, ?_, ?_, ?_, ?_, ?_, ?_, ?_, ?_, ?_, ?_⟩ <;> (go_simp; done)) | (go_split_ands; refine ⟨below_own (by assumption) (by assumption), ?_, ?_, ?_, ?_, ?_, ?_, ?_, ?_, ?_, ?_, ?_, ?_⟩ <;> exact cell_on (by assumption) (by assumption)))
              (first | (go_at_call 29; refine (hof_any _ _ _ _ _ _ _).mono ?_; rintro e w1 ⟨rfl, hb1⟩) | (go_at_call 28; refine (cmp_any _ _ _ _ _ _ _).mono ?_; rintro e w1 ⟨rfl, hb1⟩; rw [hcm]))
            rename_i hS
            obtain ⟨hb', s0, s1, s2, s3, s4, s5, s6, s7, s8, s9, s10, s11⟩ := hS
            go_wp2
            go_ret2
            unfold PutIs
            rw [HPL.out, HPE.out]
          · exact ⟨none, 0, by rw [if_neg (by rw [hve]; simp)]; rfl, World.ownsRow_nil _ _ _ _, below_own hbw hb'⟩
          · exact ⟨none, 0, by rw [if_pos hve]; rfl, World.ownsRow_nil _ _ _ _, below_own hbw hb'⟩
        · have hcm := vcmp_one hvx
          have hfs : free (l.take (k + 1)) v = true := by rw [takeS hx, free_snoc, HFR.out]; unfold vsame; rw [hvx]; simp
          have HFS := Lib.hid hfs
          clear hfs
          rcases hat with ⟨rfl, hno⟩ | ⟨a, y, rfl, hak, hno, hy, hvy⟩
          · have hat' : AtIs l v (k + 1) k := .inr ⟨k, x, rfl, by omega, hno, hx, hvx⟩
            have HAT := Lib.hid hat'
            clear hat' hno
            go_wp2_with fail
            go_region_held3 (fun w' => Below wr.heap.size wr w' ∧ w'.cell? ⟨wr.heap.size, 0, none⟩ = some (.string x.key) ∧ w'.cell? ⟨wr.heap.size, 1, none⟩ = some (.string x.val) ∧ w'.cell? ⟨wr.heap.size, 2, none⟩ = some (.bool x.gone) ∧ w'.cell? ⟨wr.heap.size, 3, none⟩ = some (.int .u64 x.ts) ∧ w'.cell? ⟨wr.heap.size, 4, none⟩ = some (.int .i64 x.dc) ∧ w'.cell? ⟨wr.heap.size, 5, none⟩ = some (.int .i64 x.tx) ∧ w'.cell? ⟨w.heap.size, 0, none⟩ = some (.string v.key) ∧ w'.cell? ⟨w.heap.size, 1, none⟩ = some (.string v.val) ∧ w'.cell? ⟨w.heap.size, 2, none⟩ = some (.bool v.gone) ∧ w'.cell? ⟨w.heap.size, 3, none⟩ = some (.int .u64 v.ts) ∧ w'.cell? ⟨w.heap.size, 4, none⟩ = some (.int .i64 v.dc) ∧ w'.cell? ⟨w.heap.size, 5, none⟩ = some (.int .i64 v.tx))
              (first | (refine ⟨own_drew (own_alloc (own_refl _) _), ?_, ?_, ?_, ?_, ?_, ?_, ?_, ?_, ?_, ?_, ?_, ?_⟩ <;> (go_simp; done)) | (go_split_ands; refine ⟨below_own (by assumption) (by assumption), ?_, ?_, ?_, ?_, ?_, ?_, ?_, ?_, ?_, ?_, ?_, ?_⟩ <;> exact cell_on (by assumption) (by assumption)))
              (first | (go_at_call 29; refine (hof_any _ _ _ _ _ _ _).mono ?_; rintro e w1 ⟨rfl, hb1⟩) | (go_at_call 28; refine (cmp_any _ _ _ _ _ _ _).mono ?_; rintro e w1 ⟨rfl, hb1⟩; rw [hcm]))
            rename_i hS
            obtain ⟨hb', s0, s1, s2, s3, s4, s5, s6, s7, s8, s9, s10, s11⟩ := hS
            go_wp2
            go_roundw
            case rel => exact ⟨k + 1, k, by omega, by go_num, rfl, HAT.out, below_own hbel hb', HFS.out⟩
            case measure => simp [intOf]; omega
          · have hat' : AtIs l v (k + 1) a := .inr ⟨a, y, rfl, by omega, hno, hy, hvy⟩
            have HAT := Lib.hid hat'
            have hd : decide ((a : Int) < 0) = false := by simp
            clear hat' hno hvy hy
            go_wp2_with fail
            go_region_held3 (fun w' => Below wr.heap.size wr w' ∧ w'.cell? ⟨wr.heap.size, 0, none⟩ = some (.string x.key) ∧ w'.cell? ⟨wr.heap.size, 1, none⟩ = some (.string x.val) ∧ w'.cell? ⟨wr.heap.size, 2, none⟩ = some (.bool x.gone) ∧ w'.cell? ⟨wr.heap.size, 3, none⟩ = some (.int .u64 x.ts) ∧ w'.cell? ⟨wr.heap.size, 4, none⟩ = some (.int .i64 x.dc) ∧ w'.cell? ⟨wr.heap.size, 5, none⟩ = some (.int .i64 x.tx) ∧ w'.cell? ⟨w.heap.size, 0, none⟩ = some (.string v.key) ∧ w'.cell? ⟨w.heap.size, 1, none⟩ = some (.string v.val) ∧ w'.cell? ⟨w.heap.size, 2, none⟩ = some (.bool v.gone) ∧ w'.cell? ⟨w.heap.size, 3, none⟩ = some (.int .u64 v.ts) ∧ w'.cell? ⟨w.heap.size, 4, none⟩ = some (.int .i64 v.dc) ∧ w'.cell? ⟨w.heap.size, 5, none⟩ = some (.int .i64 v.tx))
              (first | (refine ⟨own_drew (own_alloc (own_refl _) _), ?_, ?_, ?_, ?_, ?_, ?_, ?_, ?_, ?_, ?_, ?_, ?_⟩ <;> (go_simp; done)) | (go_split_ands; refine ⟨below_own (by assumption) (by assumption), ?_, ?_, ?_, ?_, ?_, ?_, ?_, ?_, ?_, ?_, ?_, ?_⟩ <;> exact cell_on (by assumption) (by assumption)))
              (first | (go_at_call 29; refine (hof_any _ _ _ _ _ _ _).mono ?_; rintro e w1 ⟨rfl, hb1⟩) | (go_at_call 28; refine (cmp_any _ _ _ _ _ _ _).mono ?_; rintro e w1 ⟨rfl, hb1⟩; rw [hcm]))
            rename_i hS
            obtain ⟨hb', s0, s1, s2, s3, s4, s5, s6, s7, s8, s9, s10, s11⟩ := hS
            go_wp2
            go_roundw
            case rel => exact ⟨k + 1, a, by omega, by go_num, rfl, HAT.out, below_own hbel hb', HFS.out⟩
            case measure => simp [intOf]; omega
      · have hcm := vcmp_minus hxv
        have hfs : free (l.take (k + 1)) v = true := by rw [takeS hx, free_snoc, HFR.out]; unfold vsame; rw [hxv]; simp
        have hat' : AtIs l v (k + 1) z := by
          rcases hat with ⟨e, hno⟩ | ⟨a, y, e, hak, h⟩
          · exact .inl ⟨e, by rw [takeS hx, anyGt_snoc, hno, vlt_asymm hxv]; rfl⟩
          · exact .inr ⟨a, y, e, by omega, h⟩
        have HFS := Lib.hid hfs
        have HAT := Lib.hid hat'
        clear hfs hat' hat
        go_wp2_with fail
        go_region_held3 (fun w' => Below wr.heap.size wr w' ∧ w'.cell? ⟨wr.heap.size, 0, none⟩ = some (.string x.key) ∧ w'.cell? ⟨wr.heap.size, 1, none⟩ = some (.string x.val) ∧ w'.cell? ⟨wr.heap.size, 2, none⟩ = some (.bool x.gone) ∧ w'.cell? ⟨wr.heap.size, 3, none⟩ = some (.int .u64 x.ts) ∧ w'.cell? ⟨wr.heap.size, 4, none⟩ = some (.int .i64 x.dc) ∧ w'.cell? ⟨wr.heap.size, 5, none⟩ = some (.int .i64 x.tx) ∧ w'.cell? ⟨w.heap.size, 0, none⟩ = some (.string v.key) ∧ w'.cell? ⟨w.heap.size, 1, none⟩ = some (.string v.val) ∧ w'.cell? ⟨w.heap.size, 2, none⟩ = some (.bool v.gone) ∧ w'.cell? ⟨w.heap.size, 3, none⟩ = some (.int .u64 v.ts) ∧ w'.cell? ⟨w.heap.size, 4, none⟩ = some (.int .i64 v.dc) ∧ w'.cell? ⟨w.heap.size, 5, none⟩ = some (.int .i64 v.tx))
          (first | (refine ⟨own_drew (own_alloc (own_refl _) _), ?_, ?_, ?_, ?_, ?_, ?_, ?_, ?_, ?_, ?_, ?_, ?_⟩ <;> (go_simp; done)) | (go_split_ands; refine ⟨below_own (by assumption) (by assumption), ?_, ?_, ?_, ?_, ?_, ?_, ?_, ?_, ?_, ?_, ?_, ?_⟩ <;> exact cell_on (by assumption) (by assumption)))
          (first | (go_at_call 29; refine (hof_any _ _ _ _ _ _ _).mono ?_; rintro e w1 ⟨rfl, hb1⟩) | (go_at_call 28; refine (cmp_any _ _ _ _ _ _ _).mono ?_; rintro e w1 ⟨rfl, hb1⟩; rw [hcm]))
        rename_i hS
        obtain ⟨hb', s0, s1, s2, s3, s4, s5, s6, s7, s8, s9, s10, s11⟩ := hS
        go_wp2
        go_roundw
        case rel => exact ⟨k + 1, z, by omega, by go_num, rfl, HAT.out, below_own hbel hb', HFS.out⟩
        case measure => simp [intOf]; omega
    · obtain rfl : k = n := by omega
      have hfree : free l v = true := by have := HFR.out; rwa [← hn, List.take_length] at this
      obtain ⟨m, hm1, hm2, hzm⟩ : ∃ m : Nat, m ≤ k ∧ ins l v = l.take m ++ v :: l.drop m ∧ ((z = -1 ∧ m = k) ∨ z = m) := by
        rcases hat with ⟨e, hno⟩ | ⟨a, y, e, hak, hno, hy, hvy⟩
        · exact ⟨k, Nat.le_refl _, ins_at l v k hno (.inl hn.symm), .inl ⟨e, rfl⟩⟩
        · exact ⟨a, by omega, ins_at l v a hno (.inr ⟨y, hy, hvy⟩), .inr e⟩
      have hpl : putL l v = l.take m ++ v :: l.drop m := by unfold putL; rw [if_pos hfree, hm2]
      have hpe : putE l v = 0 := by unfold putE; rw [clash_none hfree]
      have HPL := Lib.hid hpl
      have HPE := Lib.hid hpe
      clear hfree hm2 hpl hpe hat
      have v0 : wr.cell? ⟨w.heap.size, 0, none⟩ = some (.string v.key) := (box_on hbel).1 0
      have v1 : wr.cell? ⟨w.heap.size, 1, none⟩ = some (.string v.val) := (box_on hbel).1 1
      have v2 : wr.cell? ⟨w.heap.size, 2, none⟩ = some (.bool v.gone) := (box_on hbel).1 2
      have v3 : wr.cell? ⟨w.heap.size, 3, none⟩ = some (.int .u64 v.ts) := (box_on hbel).1 3
      have v4 : wr.cell? ⟨w.heap.size, 4, none⟩ = some (.int .i64 v.dc) := (box_on hbel).1 4
      have v5 : wr.cell? ⟨w.heap.size, 5, none⟩ = some (.int .i64 v.tx) := (box_on hbel).1 5
      have hsz : w.heap.size < wr.heap.size := World.block_lt_of_cell? _ _ v0
      have hA1 := hA.on hbw
      have hml : (l.take m).length = m := by rw [List.length_take]; omega
      have g1 : (0 : Int) ≤ (m : Int) := by omega
      have g2 : (m : Int) ≤ (c : Int) := by omega
      have g6 : decide ((m : Int) < 0) = false := by simp
      have hfl : (flatV (l.take m)).length = m * 6 := by rw [flatV_length, hml]
      have HML := Lib.hid hml
      have HFL := Lib.hid hfl
      clear hml hfl
      rcases hzm with ⟨rfl, rfl⟩ | rfl
      · have hd : l.drop m = [] := List.drop_eq_nil_of_le (by omega)
        have HD := Lib.hid hd
        clear hd
        go_wp2_with (refine wpList_make_own _ rfl _ _ 22 rfl (w.heap.size + 1) 25 i0 (.agg #[.string ⟨#[]⟩, .string ⟨#[]⟩, .bool false, .int .u64 0, .int .i64 0, .int .i64 0]) 6 Try.underlying22 hi0 hz0 hz1 .i64 .i64 _ (m + 1) rfl rfl (by omega) (by rw [hz2]; omega) (by unfold maxLen; omega) (by omega) ?_; intro w1 hown1 hgrow1)
        have hbm := hbel.grown hgrow1 hbel.size (fun k hk => by cases hk)
        have hbs1 : w.heap.size + 1 ≤ w1.heap.size := by have := hgrow1.size; omega
        have hlt1 : wr.heap.size < w1.heap.size := (hown1.lt _ rfl).2
        have hA2 := hA1.on (below_own (own_refl _) ⟨hgrow1.os, hgrow1.tape, hgrow1.output, hgrow1.size, fun k hk => hgrow1.block k hk (by simp)⟩)
        have HA2 := Lib.hid hA2
        have HW := Lib.hid hown1
        have HGR := Lib.hid hgrow1
        clear hA2 hown1 hgrow1
        go_region_held3 (fun w' => Below (w.alloc (.cells #[.string v.key, .string v.val, .bool v.gone, .int .u64 v.ts, .int .i64 v.dc, .int .i64 v.tx] 25)).heap.size (w.alloc (.cells #[.string v.key, .string v.val, .bool v.gone, .int .u64 v.ts, .int .i64 v.dc, .int .i64 v.tx] 25)) w' ∧ w'.cell? ⟨w.heap.size, 0, none⟩ = some (.string v.key) ∧ w'.cell? ⟨w.heap.size, 1, none⟩ = some (.string v.val) ∧ w'.cell? ⟨w.heap.size, 2, none⟩ = some (.bool v.gone) ∧ w'.cell? ⟨w.heap.size, 3, none⟩ = some (.int .u64 v.ts) ∧ w'.cell? ⟨w.heap.size, 4, none⟩ = some (.int .i64 v.dc) ∧ w'.cell? ⟨w.heap.size, 5, none⟩ = some (.int .i64 v.tx)) (first | (have hbg := own_drew hbm; exact ⟨hbg, (box_on hbg).1 0, (box_on hbg).1 1, (box_on hbg).1 2, (box_on hbg).1 3, (box_on hbg).1 4, (box_on hbg).1 5⟩) | (go_split_ands; have hbg := own_alloc (w := (w.alloc (.cells #[.string v.key, .string v.val, .bool v.gone, .int .u64 v.ts, .int .i64 v.dc, .int .i64 v.tx] 25))) (by assumption) (.cells #[.string v.key, .string v.val, .bool v.gone, .int .u64 v.ts, .int .i64 v.dc, .int .i64 v.tx] 25); exact ⟨hbg, (box_on hbg).1 0, (box_on hbg).1 1, (box_on hbg).1 2, (box_on hbg).1 3, (box_on hbg).1 4, (box_on hbg).1 5⟩) | (have hbg := below_grown (own_drew hbm) HW.out (by simp) hgrow2; exact ⟨hbg, (box_on hbg).1 0, (box_on hbg).1 1, (box_on hbg).1 2, (box_on hbg).1 3, (box_on hbg).1 4, (box_on hbg).1 5⟩) | (have hbg := below_grown (own_alloc (own_drew hbm) _) (HW.out.alloc _) (by simp) hgrow2; exact ⟨hbg, (box_on hbg).1 0, (box_on hbg).1 1, (box_on hbg).1 2, (box_on hbg).1 3, (box_on hbg).1 4, (box_on hbg).1 5⟩) | (have hbg := below_grown (own_alloc (below_grown (own_drew hbm) HW.out (by simp) hgrow2) _) (hown2.alloc _) (by simp) hgrow3; exact ⟨hbg, (box_on hbg).1 0, (box_on hbg).1 1, (box_on hbg).1 2, (box_on hbg).1 3, (box_on hbg).1 4, (box_on hbg).1 5⟩) | (have hbg := below_grown (below_grown (own_alloc (own_drew hbm) _) (HW.out.alloc _) (by simp) hgrow2) hown2 (by simp) hgrow3; exact ⟨hbg, (box_on hbg).1 0, (box_on hbg).1 1, (box_on hbg).1 2, (box_on hbg).1 3, (box_on hbg).1 4, (box_on hbg).1 5⟩) | (have hbg := below_grown (below_grown (own_alloc (own_drew hbm) _) (HW.out.alloc _) (by simp) hgrow2) hown2r (by simp) hgrow3; exact ⟨hbg, (box_on hbg).1 0, (box_on hbg).1 1, (box_on hbg).1 2, (box_on hbg).1 3, (box_on hbg).1 4, (box_on hbg).1 5⟩)) (first | ((refine step_append_cells _ (by rfl) _ _ 22 (by rfl) (w.heap.size + 1) 25 i0 (.agg #[.string ⟨#[]⟩, .string ⟨#[]⟩, .bool false, .int .u64 0, .int .i64 0, .int .i64 0]) 6 64 Try.underlying22 hi0 hz0 hz1 hz2 rfl (by omega) _ _ _ (by rfl) (show World.ownsRow w1.drew _ _ _ _ _ _ from HW.out) _ m _ (flatV (l.take m)) (by rfl) HFL.out (show Cells w1.drew _ _ from HA2.out.head m) (one_flat _) (by unfold maxLen; omega) (by omega) (show w.heap.size + 1 ≤ w1.heap.size from hbs1) ?_; intro D2 cp2 w2 hown2 hgrow2; have hown2r := hown2; simp only [Nat.zero_add, List.nil_append] at hown2)) | ((refine step_append_cells _ (by rfl) _ _ 22 (by rfl) (w.heap.size + 1) 25 i0 (.agg #[.string ⟨#[]⟩, .string ⟨#[]⟩, .bool false, .int .u64 0, .int .i64 0, .int .i64 0]) 6 64 Try.underlying22 hi0 hz0 hz1 hz2 rfl (by omega) _ _ _ (by rfl) (show World.ownsRow (w1.drew.alloc (.cells #[.string v.key, .string v.val, .bool v.gone, .int .u64 v.ts, .int .i64 v.dc, .int .i64 v.tx] 25)) _ _ _ _ _ _ from HW.out.alloc _) _ m _ (flatV (l.take m)) (by rfl) HFL.out (show Cells (w1.drew.alloc (.cells #[.string v.key, .string v.val, .bool v.gone, .int .u64 v.ts, .int .i64 v.dc, .int .i64 v.tx] 25)) _ _ from (show Cells w1.drew _ _ from HA2.out.head m).on (own_alloc (own_refl _) _)) (one_flat _) (by unfold maxLen; omega) (by omega) (by first | exact base_ok hbm | exact base_ok (own_drew hbm)) ?_; intro D2 cp2 w2 hown2 hgrow2; have hown2r := hown2; simp only [Nat.zero_add, List.nil_append] at hown2)) | ((refine step_append_cells _ (by rfl) _ _ 22 (by rfl) (w.heap.size + 1) 25 i0 (.agg #[.string ⟨#[]⟩, .string ⟨#[]⟩, .bool false, .int .u64 0, .int .i64 0, .int .i64 0]) 6 64 Try.underlying22 hi0 hz0 hz1 hz2 rfl (by omega) _ _ _ (by rfl) (show World.ownsRow (w2.alloc (.cells #[.string v.key, .string v.val, .bool v.gone, .int .u64 v.ts, .int .i64 v.dc, .int .i64 v.tx] 25)) _ _ _ _ _ _ from hown2.alloc _) _ 1 _ v.cells (by rfl) rfl (Cells.new w2 #[.string v.key, .string v.val, .bool v.gone, .int .u64 v.ts, .int .i64 v.dc, .int .i64 v.tx] 25) (one_ver v) (by unfold maxLen; omega) (by omega) (base_ok (below_grown (own_drew hbm) HW.out (by simp) hgrow2)) ?_; intro D3 cp3 w3 hown3 hgrow3)) | ((refine step_append_cells _ (by rfl) _ _ 22 (by rfl) (w.heap.size + 1) 25 i0 (.agg #[.string ⟨#[]⟩, .string ⟨#[]⟩, .bool false, .int .u64 0, .int .i64 0, .int .i64 0]) 6 64 Try.underlying22 hi0 hz0 hz1 hz2 rfl (by omega) _ _ _ (by rfl) (show World.ownsRow w2 _ _ _ _ _ _ from hown2) _ 1 _ v.cells (by rfl) rfl (cells_grown (Cells.new w1.drew #[.string v.key, .string v.val, .bool v.gone, .int .u64 v.ts, .int .i64 v.dc, .int .i64 v.tx] 25) hgrow2 (Nat.ne_of_gt hlt1)) (one_ver v) (by unfold maxLen; omega) (by omega) (by first | exact Nat.le_trans (base_ok (o' := .cells #[.string v.key, .string v.val, .bool v.gone, .int .u64 v.ts, .int .i64 v.dc, .int .i64 v.tx] 25) (own_drew hbm)) hgrow2.size | exact Nat.le_trans (base_ok (o' := .cells #[.string v.key, .string v.val, .bool v.gone, .int .u64 v.ts, .int .i64 v.dc, .int .i64 v.tx] 25) hbm) hgrow2.size) ?_; intro D3 cp3 w3 hown3 hgrow3)) | ((refine step_append_cells _ (by rfl) _ _ 22 (by rfl) (w.heap.size + 1) 25 i0 (.agg #[.string ⟨#[]⟩, .string ⟨#[]⟩, .bool false, .int .u64 0, .int .i64 0, .int .i64 0]) 6 64 Try.underlying22 hi0 hz0 hz1 hz2 rfl (by omega) _ _ _ (by rfl) (show World.ownsRow w2 _ _ _ _ _ _ from hown2r) _ 1 _ v.cells (by rfl) rfl (cells_grown (Cells.new w1.drew #[.string v.key, .string v.val, .bool v.gone, .int .u64 v.ts, .int .i64 v.dc, .int .i64 v.tx] 25) hgrow2 (Nat.ne_of_gt hlt1)) (one_ver v) (by unfold maxLen; omega) (by omega) (by first | exact Nat.le_trans (base_ok (o' := .cells #[.string v.key, .string v.val, .bool v.gone, .int .u64 v.ts, .int .i64 v.dc, .int .i64 v.tx] 25) (own_drew hbm)) hgrow2.size | exact Nat.le_trans (base_ok (o' := .cells #[.string v.key, .string v.val, .bool v.gone, .int .u64 v.ts, .int .i64 v.dc, .int .i64 v.tx] 25) hbm) hgrow2.size) ?_; intro D3 cp3 w3 hown3 hgrow3; simp only [Nat.zero_add, List.nil_append] at hown3)))
        all_goals
          rename_i hS
          obtain ⟨hb3, _⟩ := hS
          have hA3 := hA.on (below_box hb3)
          have hbs3 : w.heap.size + 1 ≤ w3.heap.size := by have h1 := hb3.size; simp at h1; omega
          go_wp2_with (at_builtin; refine wpList_append_cells _ rfl _ _ 22 rfl (w.heap.size + 1) 25 i0 (.agg #[.string ⟨#[]⟩, .string ⟨#[]⟩, .bool false, .int .u64 0, .int .i64 0, .int .i64 0]) 6 64 Try.underlying22 hi0 hz0 hz1 hz2 rfl (by omega) _ _ _ rfl hown3 _ 0 _ [] rfl rfl (Cells.nil _ _) (by simp) (by unfold maxLen; omega) (by omega) hbs3 ?_; intro D4 cp4 w4 hown4 hgrow4)
          all_goals
            go_ret2
            unfold PutIs
            rw [HPL.out, HPE.out, HD.out]
            exact ⟨D4, cp4, by simp [HML.out], by have h := own_weaken hown4 (Nat.le_succ _); simpa [flatV_append, flatV, HML.out] using h, below_box (below_grown hb3 hown3 (by simp) hgrow4)⟩
      · by_cases hmk : m = k
        · subst hmk
          have hd : l.drop m = [] := List.drop_eq_nil_of_le (by omega)
          have HD := Lib.hid hd
          clear hd
          go_wp2_with (refine wpList_make_own _ rfl _ _ 22 rfl (w.heap.size + 1) 25 i0 (.agg #[.string ⟨#[]⟩, .string ⟨#[]⟩, .bool false, .int .u64 0, .int .i64 0, .int .i64 0]) 6 Try.underlying22 hi0 hz0 hz1 .i64 .i64 _ (m + 1) rfl rfl (by omega) (by rw [hz2]; omega) (by unfold maxLen; omega) (by omega) ?_; intro w1 hown1 hgrow1)
          have hbm := hbel.grown hgrow1 hbel.size (fun k hk => by cases hk)
          have hbs1 : w.heap.size + 1 ≤ w1.heap.size := by have := hgrow1.size; omega
          have hlt1 : wr.heap.size < w1.heap.size := (hown1.lt _ rfl).2
          have hA2 := hA1.on (below_own (own_refl _) ⟨hgrow1.os, hgrow1.tape, hgrow1.output, hgrow1.size, fun k hk => hgrow1.block k hk (by simp)⟩)
          have HA2 := Lib.hid hA2
          have HW := Lib.hid hown1
          have HGR := Lib.hid hgrow1
          clear hA2 hown1 hgrow1
          go_region_held3 (fun w' => Below (w.alloc (.cells #[.string v.key, .string v.val, .bool v.gone, .int .u64 v.ts, .int .i64 v.dc, .int .i64 v.tx] 25)).heap.size (w.alloc (.cells #[.string v.key, .string v.val, .bool v.gone, .int .u64 v.ts, .int .i64 v.dc, .int .i64 v.tx] 25)) w' ∧ w'.cell? ⟨w.heap.size, 0, none⟩ = some (.string v.key) ∧ w'.cell? ⟨w.heap.size, 1, none⟩ = some (.string v.val) ∧ w'.cell? ⟨w.heap.size, 2, none⟩ = some (.bool v.gone) ∧ w'.cell? ⟨w.heap.size, 3, none⟩ = some (.int .u64 v.ts) ∧ w'.cell? ⟨w.heap.size, 4, none⟩ = some (.int .i64 v.dc) ∧ w'.cell? ⟨w.heap.size, 5, none⟩ = some (.int .i64 v.tx)) (first | (have hbg := own_drew hbm; exact ⟨hbg, (box_on hbg).1 0, (box_on hbg).1 1, (box_on hbg).1 2, (box_on hbg).1 3, (box_on hbg).1 4, (box_on hbg).1 5⟩) | (go_split_ands; have hbg := own_alloc (w := (w.alloc (.cells #[.string v.key, .string v.val, .bool v.gone, .int .u64 v.ts, .int .i64 v.dc, .int .i64 v.tx] 25))) (by assumption) (.cells #[.string v.key, .string v.val, .bool v.gone, .int .u64 v.ts, .int .i64 v.dc, .int .i64 v.tx] 25); exact ⟨hbg, (box_on hbg).1 0, (box_on hbg).1 1, (box_on hbg).1 2, (box_on hbg).1 3, (box_on hbg).1 4, (box_on hbg).1 5⟩) | (have hbg := below_grown (own_drew hbm) HW.out (by simp) hgrow2; exact ⟨hbg, (box_on hbg).1 0, (box_on hbg).1 1, (box_on hbg).1 2, (box_on hbg).1 3, (box_on hbg).1 4, (box_on hbg).1 5⟩) | (have hbg := below_grown (own_alloc (own_drew hbm) _) (HW.out.alloc _) (by simp) hgrow2; exact ⟨hbg, (box_on hbg).1 0, (box_on hbg).1 1, (box_on hbg).1 2, (box_on hbg).1 3, (box_on hbg).1 4, (box_on hbg).1 5⟩) | (have hbg := below_grown (own_alloc (below_grown (own_drew hbm) HW.out (by simp) hgrow2) _) (hown2.alloc _) (by simp) hgrow3; exact ⟨hbg, (box_on hbg).1 0, (box_on hbg).1 1, (box_on hbg).1 2, (box_on hbg).1 3, (box_on hbg).1 4, (box_on hbg).1 5⟩) | (have hbg := below_grown (below_grown (own_alloc (own_drew hbm) _) (HW.out.alloc _) (by simp) hgrow2) hown2 (by simp) hgrow3; exact ⟨hbg, (box_on hbg).1 0, (box_on hbg).1 1, (box_on hbg).1 2, (box_on hbg).1 3, (box_on hbg).1 4, (box_on hbg).1 5⟩) | (have hbg := below_grown (below_grown (own_alloc (own_drew hbm) _) (HW.out.alloc _) (by simp) hgrow2) hown2r (by simp) hgrow3; exact ⟨hbg, (box_on hbg).1 0, (box_on hbg).1 1, (box_on hbg).1 2, (box_on hbg).1 3, (box_on hbg).1 4, (box_on hbg).1 5⟩)) (first | ((refine step_append_cells _ (by rfl) _ _ 22 (by rfl) (w.heap.size + 1) 25 i0 (.agg #[.string ⟨#[]⟩, .string ⟨#[]⟩, .bool false, .int .u64 0, .int .i64 0, .int .i64 0]) 6 64 Try.underlying22 hi0 hz0 hz1 hz2 rfl (by omega) _ _ _ (by rfl) (show World.ownsRow w1.drew _ _ _ _ _ _ from HW.out) _ m _ (flatV (l.take m)) (by rfl) HFL.out (show Cells w1.drew _ _ from HA2.out.head m) (one_flat _) (by unfold maxLen; omega) (by omega) (show w.heap.size + 1 ≤ w1.heap.size from hbs1) ?_; intro D2 cp2 w2 hown2 hgrow2; have hown2r := hown2; simp only [Nat.zero_add, List.nil_append] at hown2)) | ((refine step_append_cells _ (by rfl) _ _ 22 (by rfl) (w.heap.size + 1) 25 i0 (.agg #[.string ⟨#[]⟩, .string ⟨#[]⟩, .bool false, .int .u64 0, .int .i64 0, .int .i64 0]) 6 64 Try.underlying22 hi0 hz0 hz1 hz2 rfl (by omega) _ _ _ (by rfl) (show World.ownsRow (w1.drew.alloc (.cells #[.string v.key, .string v.val, .bool v.gone, .int .u64 v.ts, .int .i64 v.dc, .int .i64 v.tx] 25)) _ _ _ _ _ _ from HW.out.alloc _) _ m _ (flatV (l.take m)) (by rfl) HFL.out (show Cells (w1.drew.alloc (.cells #[.string v.key, .string v.val, .bool v.gone, .int .u64 v.ts, .int .i64 v.dc, .int .i64 v.tx] 25)) _ _ from (show Cells w1.drew _ _ from HA2.out.head m).on (own_alloc (own_refl _) _)) (one_flat _) (by unfold maxLen; omega) (by omega) (by first | exact base_ok hbm | exact base_ok (own_drew hbm)) ?_; intro D2 cp2 w2 hown2 hgrow2; have hown2r := hown2; simp only [Nat.zero_add, List.nil_append] at hown2)) | ((refine step_append_cells _ (by rfl) _ _ 22 (by rfl) (w.heap.size + 1) 25 i0 (.agg #[.string ⟨#[]⟩, .string ⟨#[]⟩, .bool false, .int .u64 0, .int .i64 0, .int .i64 0]) 6 64 Try.underlying22 hi0 hz0 hz1 hz2 rfl (by omega) _ _ _ (by rfl) (show World.ownsRow (w2.alloc (.cells #[.string v.key, .string v.val, .bool v.gone, .int .u64 v.ts, .int .i64 v.dc, .int .i64 v.tx] 25)) _ _ _ _ _ _ from hown2.alloc _) _ 1 _ v.cells (by rfl) rfl (Cells.new w2 #[.string v.key, .string v.val, .bool v.gone, .int .u64 v.ts, .int .i64 v.dc, .int .i64 v.tx] 25) (one_ver v) (by unfold maxLen; omega) (by omega) (base_ok (below_grown (own_drew hbm) HW.out (by simp) hgrow2)) ?_; intro D3 cp3 w3 hown3 hgrow3)) | ((refine step_append_cells _ (by rfl) _ _ 22 (by rfl) (w.heap.size + 1) 25 i0 (.agg #[.string ⟨#[]⟩, .string ⟨#[]⟩, .bool false, .int .u64 0, .int .i64 0, .int .i64 0]) 6 64 Try.underlying22 hi0 hz0 hz1 hz2 rfl (by omega) _ _ _ (by rfl) (show World.ownsRow w2 _ _ _ _ _ _ from hown2) _ 1 _ v.cells (by rfl) rfl (cells_grown (Cells.new w1.drew #[.string v.key, .string v.val, .bool v.gone, .int .u64 v.ts, .int .i64 v.dc, .int .i64 v.tx] 25) hgrow2 (Nat.ne_of_gt hlt1)) (one_ver v) (by unfold maxLen; omega) (by omega) (by first | exact Nat.le_trans (base_ok (o' := .cells #[.string v.key, .string v.val, .bool v.gone, .int .u64 v.ts, .int .i64 v.dc, .int .i64 v.tx] 25) (own_drew hbm)) hgrow2.size | exact Nat.le_trans (base_ok (o' := .cells #[.string v.key, .string v.val, .bool v.gone, .int .u64 v.ts, .int .i64 v.dc, .int .i64 v.tx] 25) hbm) hgrow2.size) ?_; intro D3 cp3 w3 hown3 hgrow3)) | ((refine step_append_cells _ (by rfl) _ _ 22 (by rfl) (w.heap.size + 1) 25 i0 (.agg #[.string ⟨#[]⟩, .string ⟨#[]⟩, .bool false, .int .u64 0, .int .i64 0, .int .i64 0]) 6 64 Try.underlying22 hi0 hz0 hz1 hz2 rfl (by omega) _ _ _ (by rfl) (show World.ownsRow w2 _ _ _ _ _ _ from hown2r) _ 1 _ v.cells (by rfl) rfl (cells_grown (Cells.new w1.drew #[.string v.key, .string v.val, .bool v.gone, .int .u64 v.ts, .int .i64 v.dc, .int .i64 v.tx] 25) hgrow2 (Nat.ne_of_gt hlt1)) (one_ver v) (by unfold maxLen; omega) (by omega) (by first | exact Nat.le_trans (base_ok (o' := .cells #[.string v.key, .string v.val, .bool v.gone, .int .u64 v.ts, .int .i64 v.dc, .int .i64 v.tx] 25) (own_drew hbm)) hgrow2.size | exact Nat.le_trans (base_ok (o' := .cells #[.string v.key, .string v.val, .bool v.gone, .int .u64 v.ts, .int .i64 v.dc, .int .i64 v.tx] 25) hbm) hgrow2.size) ?_; intro D3 cp3 w3 hown3 hgrow3; simp only [Nat.zero_add, List.nil_append] at hown3)))
          all_goals
            rename_i hS
            obtain ⟨hb3, _⟩ := hS
            have hA3 := hA.on (below_box hb3)
            have hbs3 : w.heap.size + 1 ≤ w3.heap.size := by have h1 := hb3.size; simp at h1; omega
            go_wp2_with (at_builtin; refine wpList_append_cells _ rfl _ _ 22 rfl (w.heap.size + 1) 25 i0 (.agg #[.string ⟨#[]⟩, .string ⟨#[]⟩, .bool false, .int .u64 0, .int .i64 0, .int .i64 0]) 6 64 Try.underlying22 hi0 hz0 hz1 hz2 rfl (by omega) _ _ _ rfl hown3 _ 0 _ [] rfl rfl (Cells.nil _ _) (by simp) (by unfold maxLen; omega) (by omega) hbs3 ?_; intro D4 cp4 w4 hown4 hgrow4)
            all_goals
              go_ret2
              unfold PutIs
              rw [HPL.out, HPE.out, HD.out]
              exact ⟨D4, cp4, by simp [HML.out], by have h := own_weaken hown4 (Nat.le_succ _); simpa [flatV_append, flatV, HML.out] using h, below_box (below_grown hb3 hown3 (by simp) hgrow4)⟩
        · obtain ⟨x, hx⟩ : ∃ x, l[m]? = some x := ⟨_, List.getElem?_eq_getElem (by omega)⟩
          obtain ⟨b, off, rfl, _⟩ := hA1.ver hx
          have hmc : ¬ c = m := by omega
          have hmc2 : (m : Int) < (c : Int) := by omega
          have hmk2 : (m : Int) ≤ (k : Int) := by omega
          go_wp2_with (refine wpList_make_own _ rfl _ _ 22 rfl (w.heap.size + 1) 25 i0 (.agg #[.string ⟨#[]⟩, .string ⟨#[]⟩, .bool false, .int .u64 0, .int .i64 0, .int .i64 0]) 6 Try.underlying22 hi0 hz0 hz1 .i64 .i64 _ (k + 1) rfl rfl (by omega) (by rw [hz2]; omega) (by unfold maxLen; omega) (by omega) ?_; intro w1 hown1 hgrow1)
          have hbm := hbel.grown hgrow1 hbel.size (fun k hk => by cases hk)
          have hbs1 : w.heap.size + 1 ≤ w1.heap.size := by have := hgrow1.size; omega
          have hlt1 : wr.heap.size < w1.heap.size := (hown1.lt _ rfl).2
          have hA2 := hA1.on (below_own (own_refl _) ⟨hgrow1.os, hgrow1.tape, hgrow1.output, hgrow1.size, fun k hk => hgrow1.block k hk (by simp)⟩)
          have HA2 := Lib.hid hA2
          have HW := Lib.hid hown1
          have HGR := Lib.hid hgrow1
          clear hA2 hown1 hgrow1
          go_region_held3 (fun w' => Below (w.alloc (.cells #[.string v.key, .string v.val, .bool v.gone, .int .u64 v.ts, .int .i64 v.dc, .int .i64 v.tx] 25)).heap.size (w.alloc (.cells #[.string v.key, .string v.val, .bool v.gone, .int .u64 v.ts, .int .i64 v.dc, .int .i64 v.tx] 25)) w' ∧ w'.cell? ⟨w.heap.size, 0, none⟩ = some (.string v.key) ∧ w'.cell? ⟨w.heap.size, 1, none⟩ = some (.string v.val) ∧ w'.cell? ⟨w.heap.size, 2, none⟩ = some (.bool v.gone) ∧ w'.cell? ⟨w.heap.size, 3, none⟩ = some (.int .u64 v.ts) ∧ w'.cell? ⟨w.heap.size, 4, none⟩ = some (.int .i64 v.dc) ∧ w'.cell? ⟨w.heap.size, 5, none⟩ = some (.int .i64 v.tx)) (first | (have hbg := own_drew hbm; exact ⟨hbg, (box_on hbg).1 0, (box_on hbg).1 1, (box_on hbg).1 2, (box_on hbg).1 3, (box_on hbg).1 4, (box_on hbg).1 5⟩) | (go_split_ands; have hbg := own_alloc (w := (w.alloc (.cells #[.string v.key, .string v.val, .bool v.gone, .int .u64 v.ts, .int .i64 v.dc, .int .i64 v.tx] 25))) (by assumption) (.cells #[.string v.key, .string v.val, .bool v.gone, .int .u64 v.ts, .int .i64 v.dc, .int .i64 v.tx] 25); exact ⟨hbg, (box_on hbg).1 0, (box_on hbg).1 1, (box_on hbg).1 2, (box_on hbg).1 3, (box_on hbg).1 4, (box_on hbg).1 5⟩) | (have hbg := below_grown (own_drew hbm) HW.out (by simp) hgrow2; exact ⟨hbg, (box_on hbg).1 0, (box_on hbg).1 1, (box_on hbg).1 2, (box_on hbg).1 3, (box_on hbg).1 4, (box_on hbg).1 5⟩) | (have hbg := below_grown (own_alloc (own_drew hbm) _) (HW.out.alloc _) (by simp) hgrow2; exact ⟨hbg, (box_on hbg).1 0, (box_on hbg).1 1, (box_on hbg).1 2, (box_on hbg).1 3, (box_on hbg).1 4, (box_on hbg).1 5⟩) | (have hbg := below_grown (own_alloc (below_grown (own_drew hbm) HW.out (by simp) hgrow2) _) (hown2.alloc _) (by simp) hgrow3; exact ⟨hbg, (box_on hbg).1 0, (box_on hbg).1 1, (box_on hbg).1 2, (box_on hbg).1 3, (box_on hbg).1 4, (box_on hbg).1 5⟩) | (have hbg := below_grown (below_grown (own_alloc (own_drew hbm) _) (HW.out.alloc _) (by simp) hgrow2) hown2 (by simp) hgrow3; exact ⟨hbg, (box_on hbg).1 0, (box_on hbg).1 1, (box_on hbg).1 2, (box_on hbg).1 3, (box_on hbg).1 4, (box_on hbg).1 5⟩) | (have hbg := below_grown (below_grown (own_alloc (own_drew hbm) _) (HW.out.alloc _) (by simp) hgrow2) hown2r (by simp) hgrow3; exact ⟨hbg, (box_on hbg).1 0, (box_on hbg).1 1, (box_on hbg).1 2, (box_on hbg).1 3, (box_on hbg).1 4, (box_on hbg).1 5⟩)) (first | ((refine step_append_cells _ (by rfl) _ _ 22 (by rfl) (w.heap.size + 1) 25 i0 (.agg #[.string ⟨#[]⟩, .string ⟨#[]⟩, .bool false, .int .u64 0, .int .i64 0, .int .i64 0]) 6 64 Try.underlying22 hi0 hz0 hz1 hz2 rfl (by omega) _ _ _ (by rfl) (show World.ownsRow w1.drew _ _ _ _ _ _ from HW.out) _ m _ (flatV (l.take m)) (by rfl) HFL.out (show Cells w1.drew _ _ from HA2.out.head m) (one_flat _) (by unfold maxLen; omega) (by omega) (show w.heap.size + 1 ≤ w1.heap.size from hbs1) ?_; intro D2 cp2 w2 hown2 hgrow2; have hown2r := hown2; simp only [Nat.zero_add, List.nil_append] at hown2)) | ((refine step_append_cells _ (by rfl) _ _ 22 (by rfl) (w.heap.size + 1) 25 i0 (.agg #[.string ⟨#[]⟩, .string ⟨#[]⟩, .bool false, .int .u64 0, .int .i64 0, .int .i64 0]) 6 64 Try.underlying22 hi0 hz0 hz1 hz2 rfl (by omega) _ _ _ (by rfl) (show World.ownsRow (w1.drew.alloc (.cells #[.string v.key, .string v.val, .bool v.gone, .int .u64 v.ts, .int .i64 v.dc, .int .i64 v.tx] 25)) _ _ _ _ _ _ from HW.out.alloc _) _ m _ (flatV (l.take m)) (by rfl) HFL.out (show Cells (w1.drew.alloc (.cells #[.string v.key, .string v.val, .bool v.gone, .int .u64 v.ts, .int .i64 v.dc, .int .i64 v.tx] 25)) _ _ from (show Cells w1.drew _ _ from HA2.out.head m).on (own_alloc (own_refl _) _)) (one_flat _) (by unfold maxLen; omega) (by omega) (by first | exact base_ok hbm | exact base_ok (own_drew hbm)) ?_; intro D2 cp2 w2 hown2 hgrow2; have hown2r := hown2; simp only [Nat.zero_add, List.nil_append] at hown2)) | ((refine step_append_cells _ (by rfl) _ _ 22 (by rfl) (w.heap.size + 1) 25 i0 (.agg #[.string ⟨#[]⟩, .string ⟨#[]⟩, .bool false, .int .u64 0, .int .i64 0, .int .i64 0]) 6 64 Try.underlying22 hi0 hz0 hz1 hz2 rfl (by omega) _ _ _ (by rfl) (show World.ownsRow (w2.alloc (.cells #[.string v.key, .string v.val, .bool v.gone, .int .u64 v.ts, .int .i64 v.dc, .int .i64 v.tx] 25)) _ _ _ _ _ _ from hown2.alloc _) _ 1 _ v.cells (by rfl) rfl (Cells.new w2 #[.string v.key, .string v.val, .bool v.gone, .int .u64 v.ts, .int .i64 v.dc, .int .i64 v.tx] 25) (one_ver v) (by unfold maxLen; omega) (by omega) (base_ok (below_grown (own_drew hbm) HW.out (by simp) hgrow2)) ?_; intro D3 cp3 w3 hown3 hgrow3)) | ((refine step_append_cells _ (by rfl) _ _ 22 (by rfl) (w.heap.size + 1) 25 i0 (.agg #[.string ⟨#[]⟩, .string ⟨#[]⟩, .bool false, .int .u64 0, .int .i64 0, .int .i64 0]) 6 64 Try.underlying22 hi0 hz0 hz1 hz2 rfl (by omega) _ _ _ (by rfl) (show World.ownsRow w2 _ _ _ _ _ _ from hown2) _ 1 _ v.cells (by rfl) rfl (cells_grown (Cells.new w1.drew #[.string v.key, .string v.val, .bool v.gone, .int .u64 v.ts, .int .i64 v.dc, .int .i64 v.tx] 25) hgrow2 (Nat.ne_of_gt hlt1)) (one_ver v) (by unfold maxLen; omega) (by omega) (by first | exact Nat.le_trans (base_ok (o' := .cells #[.string v.key, .string v.val, .bool v.gone, .int .u64 v.ts, .int .i64 v.dc, .int .i64 v.tx] 25) (own_drew hbm)) hgrow2.size | exact Nat.le_trans (base_ok (o' := .cells #[.string v.key, .string v.val, .bool v.gone, .int .u64 v.ts, .int .i64 v.dc, .int .i64 v.tx] 25) hbm) hgrow2.size) ?_; intro D3 cp3 w3 hown3 hgrow3)) | ((refine step_append_cells _ (by rfl) _ _ 22 (by rfl) (w.heap.size + 1) 25 i0 (.agg #[.string ⟨#[]⟩, .string ⟨#[]⟩, .bool false, .int .u64 0, .int .i64 0, .int .i64 0]) 6 64 Try.underlying22 hi0 hz0 hz1 hz2 rfl (by omega) _ _ _ (by rfl) (show World.ownsRow w2 _ _ _ _ _ _ from hown2r) _ 1 _ v.cells (by rfl) rfl (cells_grown (Cells.new w1.drew #[.string v.key, .string v.val, .bool v.gone, .int .u64 v.ts, .int .i64 v.dc, .int .i64 v.tx] 25) hgrow2 (Nat.ne_of_gt hlt1)) (one_ver v) (by unfold maxLen; omega) (by omega) (by first | exact Nat.le_trans (base_ok (o' := .cells #[.string v.key, .string v.val, .bool v.gone, .int .u64 v.ts, .int .i64 v.dc, .int .i64 v.tx] 25) (own_drew hbm)) hgrow2.size | exact Nat.le_trans (base_ok (o' := .cells #[.string v.key, .string v.val, .bool v.gone, .int .u64 v.ts, .int .i64 v.dc, .int .i64 v.tx] 25) hbm) hgrow2.size) ?_; intro D3 cp3 w3 hown3 hgrow3; simp only [Nat.zero_add, List.nil_append] at hown3)))
          all_goals
            rename_i hS
            obtain ⟨hb3, _⟩ := hS
            have hA3 := hA.on (below_box hb3)
            have hbs3 : w.heap.size + 1 ≤ w3.heap.size := by have h1 := hb3.size; simp at h1; omega
            go_wp2_with (at_builtin; refine wpList_append_cells _ rfl _ _ 22 rfl (w.heap.size + 1) 25 i0 (.agg #[.string ⟨#[]⟩, .string ⟨#[]⟩, .bool false, .int .u64 0, .int .i64 0, .int .i64 0]) 6 64 Try.underlying22 hi0 hz0 hz1 hz2 rfl (by omega) _ _ _ rfl hown3 _ (k - m) _ (flatV (l.drop m)) rfl (by rw [flatV_length, List.length_drop, hn]) (hA3.tail m (by omega)) (one_flat _) (by unfold maxLen; omega) (by omega) hbs3 ?_; intro D4 cp4 w4 hown4 hgrow4)
            go_ret2
            unfold PutIs
            rw [HPL.out, HPE.out]
            have hle : (l.take m ++ v :: l.drop m).length = m + 1 + (k - m) := by rw [List.length_append, HML.out, List.length_cons, List.length_drop]; omega
            rw [hle]
            exact ⟨D4, cp4, rfl, by have h := own_weaken hown4 (Nat.le_succ _); rw [flatV_append, show flatV (v :: l.drop m) = v.cells ++ flatV (l.drop m) from rfl, ← List.append_assoc]; simpa using h, below_box (below_grown hb3 hown3 (by simp) hgrow4)⟩
end Go.Proofs.Ytpiifgmegdphpaa
