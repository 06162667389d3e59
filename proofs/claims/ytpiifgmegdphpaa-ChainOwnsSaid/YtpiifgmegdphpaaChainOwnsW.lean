/-
  The walk of the law ChainOwns: whatever data come in, the call returns true and leaves what was there. Conditions: the arguments' cells lie as the hypotheses say.
-/
import Derived.Test.YtpiifgmegdphpaaJoin
import Derived.Test.YtpiifgmegdphpaaTrim
import Derived.Test.YtpiifgmegdphpaaSame
import Derived.Test.YtpiifgmegdphpaaChainAt2
import Derived.Test.YtpiifgmegdphpaaGreat
import Derived.Test.YtpiifgmegdphpaaFrame
namespace Go.Proofs.Ytpiifgmegdphpaa.lawChainOwns
open Go.ChangeShapes Go.WideShapes Go.ChangeAt Go.RowKit
set_option linter.unusedVariables false

/-- a row of versions of the call's own: the third cell of each is a bool that may be written. -/
def GoneRow (lo hi : Nat) (w : World) (D : Option Addr) (n : Nat) : Prop := ∀ i, i < n → ∃ g, D = some ⟨g, 0, none⟩ ∧ lo ≤ g ∧ g < hi ∧ (∃ b, w.cell? ⟨g, i * 6 + 2, none⟩ = some (.bool b)) ∧ w.frozen? ⟨g, i * 6 + 2, none⟩ = false
theorem gone_set {lo hi : Nat} {w : World} {D : Option Addr} {n : Nat} (h : GoneRow lo hi w D n) (a : Addr) (b : Bool) : GoneRow lo hi (w.setCell a (.bool b)) D n := by
  intro i hi'
  obtain ⟨g, e, h1, h2, ⟨b', hc⟩, hf⟩ := h i hi'
  refine ⟨g, e, h1, h2, ?_, by rw [World.frozen?_setCell]; exact hf⟩
  by_cases ha : a = ⟨g, i * 6 + 2, none⟩
  · subst ha
    exact ⟨b, World.cell?_setCell_same' _ _ _ (by rw [hc]; rfl)⟩
  · exact ⟨b', by rw [World.cell?_setCell_other _ _ _ _ ha]; exact hc⟩
theorem gone_on {lo hi : Nat} {w w' : World} {D : Option Addr} {n : Nat} (h : GoneRow lo hi w D n) (hb : Below w.heap.size w w') : GoneRow lo hi w' D n := by
  intro i hi'
  obtain ⟨g, e, h1, h2, ⟨b', hc⟩, hf⟩ := h i hi'
  exact ⟨g, e, h1, h2, ⟨b', cell_on hb hc⟩, (hb.frozen (p := ⟨g, i * 6 + 2, none⟩) (World.block_lt_of_cell? _ _ hc)).trans hf⟩
theorem gone_more {lo lo' hi hi' : Nat} {w : World} {D : Option Addr} {n : Nat} (h : GoneRow lo hi w D n) (h1 : lo' ≤ lo) (h2 : hi ≤ hi') : GoneRow lo' hi' w D n := by
  intro i hi'
  obtain ⟨g, e, h3, h4, r⟩ := h i hi'
  exact ⟨g, e, by omega, by omega, r⟩
theorem gone_of {w : World} {base : Nat} {n cp : Nat} {D : Option Addr} {l : List V} (h : w.ownsRow base 25 6 (.slice D n cp) n (flatV l)) (hn : l.length = n) : GoneRow base w.heap.size w D n := by
  intro i hi
  obtain ⟨x, hx⟩ : ∃ x, l[i]? = some x := ⟨_, List.getElem?_eq_getElem (by omega)⟩
  have h2 := flatV_get l i x 2 hx (by omega)
  have hh := h
  obtain ⟨hl, ⟨hv, h0⟩ | ⟨g, cap, cur, hv, hg, hh2, r⟩⟩ := h
  · omega
  · injection hv with hA hnn hc
    subst hA hc
    refine ⟨g, rfl, hg, (Array.getElem?_eq_some_iff.1 hh2).1, ⟨x.gone, ?_⟩, hh.frozenAt _⟩
    rw [hh.cellAt (i * 6 + 2) (by omega), h2]
    rfl
/-- the three answers, in a row of their own. -/
def Three (lo hi : Nat) (w : World) : Prop := ∀ j, j < 3 → ∃ D n cp, w.cell? ⟨hi, j, none⟩ = some (.slice D n cp) ∧ n ≤ 1000 ∧ GoneRow lo hi w D n
theorem three_set {lo hi : Nat} {w : World} (h : Three lo hi w) {a : Addr} (ha : a.block < hi) (b : Bool) : Three lo hi (w.setCell a (.bool b)) := by
  intro j hj
  obtain ⟨D, n, cp, hc, hn, hg⟩ := h j hj
  refine ⟨D, n, cp, ?_, hn, gone_set hg a b⟩
  rw [World.cell?_setCell_other _ _ _ _ (fun e => by rw [e] at ha; exact Nat.lt_irrefl _ ha)]
  exact hc
theorem three_mk {lo hi : Nat} {w : World} {t : TypeId} {D1 D2 D3 : Option Addr} {n1 n2 n3 c1 c2 c3 : Nat} (hw : w.heap.size = hi) (h1 : GoneRow lo hi w D1 n1) (h2 : GoneRow lo hi w D2 n2) (h3 : GoneRow lo hi w D3 n3) (l1 : n1 ≤ 1000) (l2 : n2 ≤ 1000) (l3 : n3 ≤ 1000) :
    Three lo hi (w.alloc (.cells #[.slice D1 n1 c1, .slice D2 n2 c2, .slice D3 n3 c3] t)) := by
  have hb : Below w.heap.size w (w.alloc (.cells #[.slice D1 n1 c1, .slice D2 n2 c2, .slice D3 n3 c3] t)) := own_alloc (own_refl _) _
  have hc : ∀ j, (w.alloc (.cells #[.slice D1 n1 c1, .slice D2 n2 c2, .slice D3 n3 c3] t)).cell? ⟨hi, j, none⟩ = #[Value.slice D1 n1 c1, .slice D2 n2 c2, .slice D3 n3 c3][j]? := fun j => by rw [← hw]; exact cell_of_row _ _ _ _ _ _ (heap_alloc_new w _)
  intro j hj
  match j, hj with
  | 0, _ => exact ⟨D1, n1, c1, by rw [hc]; rfl, l1, gone_on h1 hb⟩
  | 1, _ => exact ⟨D2, n2, c2, by rw [hc]; rfl, l2, gone_on h2 hb⟩
  | 2, _ => exact ⟨D3, n3, c3, by rw [hc]; rfl, l3, gone_on h3 hb⟩
theorem putL_len (l : List V) (v : V) : (putL l v).length ≤ l.length + 1 := by unfold putL; split; rw [ins_len]; exact Nat.le_refl _; simp
theorem joinL_len (a b : List V) : (joinL a b).length ≤ a.length + b.length := by
  unfold joinL
  cases hj : joinTo a b b.length with
  | none => simp
  | some o => have := joinTo_len _ _ hj; simp; omega

set_option maxHeartbeats 4000000 in
theorem walk (A : Option Addr) (n c : Nat) (l : List V) (v : V) (floor : Int) (w : World) (hn : l.length = n) (hm : n ≤ 9223372036854775807) (hk : n ≤ c) (hA : Cells w A (flatV l)) :
    Calls Try.prog 11 #[.slice A n c, .agg #[.string v.key, .string v.val, .bool v.gone, .int .u64 v.ts, .int .i64 v.dc, .int .i64 v.tx], .int .u64 floor] w fun e w' => e = .returned (.bool true) ∧ Below w.heap.size w w' := by
  by_cases hg : 120 < n
  · go_enter Try.func11, Try.ntmps11
    go_wp2_with (first
      | (go_at_call 19; refine (great_yes _ _ _ _ hg).mono ?_; rintro e w0 ⟨rfl, rfl⟩)
      | (go_at_call 14; refine (awake_any _).mono ?_; rintro e w2 ⟨rfl, hb2⟩))
    go_ret
    exact ⟨rfl, below_box hb2⟩
  · obtain ⟨i0, hi0, hz0, hz1, hz2⟩ := info_parts infoVer
    obtain ⟨pl, hp⟩ : ∃ o, putL l v = o := ⟨_, rfl⟩
    obtain ⟨tl, ht⟩ : ∃ o, trimmed l (seen l floor n) = o := ⟨_, rfl⟩
    obtain ⟨jl, hj⟩ : ∃ o, joinL l [v] = o := ⟨_, rfl⟩
    have lp : pl.length ≤ 1000 := by have := putL_len l v; rw [hp] at this; omega
    have lt : tl.length ≤ 1000 := by have := trimmed_le l (seen l floor n); rw [ht] at this; omega
    have lj : jl.length ≤ 1000 := by have := joinL_len l [v]; rw [hj] at this; simp at this; omega
    have HP := Lib.hid hp
    have HT := Lib.hid ht
    have HJ := Lib.hid hj
    have hfl : (flatV l).length = n * 6 := by rw [flatV_length, hn]
    have HFL := Lib.hid hfl
    have he : ((w.alloc (.cells #[.string v.key, .string v.val, .bool v.gone, .int .u64 v.ts, .int .i64 v.dc, .int .i64 v.tx] 25)).alloc (.cells #[] 25)).ownsRow (w.heap.size + 1) 25 6 (.slice (some ⟨w.heap.size + 1, 0, none⟩) 0 0) 0 [] := by
      have h := own_empty (w.alloc (.cells #[.string v.key, .string v.val, .bool v.gone, .int .u64 v.ts, .int .i64 v.dc, .int .i64 v.tx] 25))
      rwa [show (w.alloc (.cells #[.string v.key, .string v.val, .bool v.gone, .int .u64 v.ts, .int .i64 v.dc, .int .i64 v.tx] 25)).heap.size = w.heap.size + 1 from by simp] at h
    have hcv : ∀ w : World, Cells (w.alloc (.cells #[.string v.key, .string v.val, .bool v.gone, .int .u64 v.ts, .int .i64 v.dc, .int .i64 v.tx] 25)) (some ⟨w.heap.size, 0, none⟩) (flatV [v]) := fun w => by
      have h := Cells.new w #[.string v.key, .string v.val, .bool v.gone, .int .u64 v.ts, .int .i64 v.dc, .int .i64 v.tx] 25
      simpa [flatV, V.cells] using h
    have HCV := Lib.hid hcv
    clear hp ht hj hfl hcv
    go_enter Try.func11, Try.ntmps11
    go_wp2_with (first | (go_at_call 19; refine (great_no _ _ _ _ (by omega)).mono ?_; rintro e w0 ⟨rfl, rfl⟩) | (at_builtin; refine wpList_append_cells _ rfl _ _ 22 rfl (w.heap.size + 1) 25 i0 (.agg #[.string ⟨#[]⟩, .string ⟨#[]⟩, .bool false, .int .u64 0, .int .i64 0, .int .i64 0]) 6 64 Try.underlying22 hi0 hz0 hz1 hz2 rfl (by omega) _ _ _ rfl he _ n _ (flatV l) rfl HFL.out (hA.on (own_alloc (own_alloc (own_refl _) _) _)) (one_flat _) (by unfold maxLen; omega) (by omega) (by simp) ?_; intro D0 cp0 w1 hown1 hgrow1; simp only [Nat.zero_add, List.nil_append] at hown1; have hbb : Below (w.alloc (.cells #[.string v.key, .string v.val, .bool v.gone, .int .u64 v.ts, .int .i64 v.dc, .int .i64 v.tx] 25)).heap.size (w.alloc (.cells #[.string v.key, .string v.val, .bool v.gone, .int .u64 v.ts, .int .i64 v.dc, .int .i64 v.tx] 25)) w1 := below_grown (own_alloc (own_refl _) _) he (by simp) hgrow1; have v0 : w1.cell? ⟨w.heap.size, 0, none⟩ = some (.string v.key) := (box_on hbb).1 0; have v1 : w1.cell? ⟨w.heap.size, 1, none⟩ = some (.string v.val) := (box_on hbb).1 1; have v2 : w1.cell? ⟨w.heap.size, 2, none⟩ = some (.bool v.gone) := (box_on hbb).1 2; have v3 : w1.cell? ⟨w.heap.size, 3, none⟩ = some (.int .u64 v.ts) := (box_on hbb).1 3; have v4 : w1.cell? ⟨w.heap.size, 4, none⟩ = some (.int .i64 v.dc) := (box_on hbb).1 4; have v5 : w1.cell? ⟨w.heap.size, 5, none⟩ = some (.int .i64 v.tx) := (box_on hbb).1 5; have hb1 := below_box hbb) | (go_at_call 20; refine (put_any _ _ _ l v _ hn (by omega) hk (hA.on hb1)).mono ?_; rintro e w2 ⟨D2, cp2, rfl, hown2, hb2⟩; rw [HP.out] at hown2 ⊢; have u0 := cell_on hb2 v0; have u1 := cell_on hb2 v1; have u2 := cell_on hb2 v2; have u3 := cell_on hb2 v3; have u4 := cell_on hb2 v4; have u5 := cell_on hb2 v5) | (go_at_call 15; refine (trim_is _ _ _ l _ _ hn (by omega) ((hA.on hb1).on hb2)).mono ?_; rintro e w3 ⟨D3, cp3, rfl, hown3, hb3⟩; rw [HT.out] at hown3 ⊢; have s0 := cell_on hb3 u0; have s1 := cell_on hb3 u1; have s2 := cell_on hb3 u2; have s3 := cell_on hb3 u3; have s4 := cell_on hb3 u4; have s5 := cell_on hb3 u5) | (go_at_call 24; refine (join_any _ _ _ _ _ _ l [v] _ hn (show [v].length = 1 from rfl) (by omega) (by omega) ((((hA.on hb1).on hb2).on hb3).on (own_alloc (own_refl _) _)) (HCV.out w3)).mono ?_; rintro e w4 ⟨D4, cp4, rfl, hown4, hb4⟩; rw [HJ.out] at hown4 ⊢))
    have hsz4 := hb4.size
    simp only [World.size_alloc] at hsz4
    have hsz1 := hb1.size
    have hsz2 := hb2.size
    have hsz3 := hb3.size
    have g2 := gone_on (gone_on (gone_on (gone_on (gone_of hown2 rfl) hb3) (own_alloc (own_refl _) _)) hb4) (own_refl _)
    have g3 := gone_on (gone_on (gone_of hown3 rfl) (own_alloc (own_refl _) _)) hb4
    have g4 := gone_of hown4 rfl
    have h3 : Three w1.heap.size w4.heap.size (w4.alloc (.cells #[.slice D2 pl.length cp2, .slice D3 tl.length cp3, .slice D4 jl.length cp4] 22)) :=
      three_mk rfl (gone_more g2 (Nat.le_refl _) (by omega)) (gone_more g3 hsz2 (by omega)) (gone_more g4 (by simp; omega) (Nat.le_refl _)) lp lt lj
    have hb14 : Below w1.heap.size w1 (w4.alloc (.cells #[.slice D2 pl.length cp2, .slice D3 tl.length cp3, .slice D4 jl.length cp4] 22)) :=
      own_alloc (below_own (below_own (below_own hb2 hb3) (own_alloc (own_refl _) _)) hb4) _
    go_loopw [47] (fun i wr => ∃ k : Nat, k ≤ 3 ∧ i = .int .i64 k ∧ Three w1.heap.size w4.heap.size wr ∧ Below w1.heap.size w1 wr) (fun i _ => 3 - (intOf i).toNat)
    case atStart => exact ⟨0, by omega, rfl, h3, hb14⟩
    case round =>
      obtain ⟨k, hk, rfl, hT, hbel⟩ := hrel
      by_cases hlt : k < 3
      · obtain ⟨D, nn, cp, hc, hnn, hG⟩ := hT k hlt
        have HTT := Lib.hid hT
        clear hT
        have g3' : (0 : Int) ≤ (k : Int) := by omega
        have g4' : (k : Int) < 3 := by omega
        go_wp2
        go_loopw [53] (fun i wq => ∃ k2 : Nat, k2 ≤ nn ∧ i = .int .i64 k2 ∧ Three w1.heap.size w4.heap.size wq ∧ GoneRow w1.heap.size w4.heap.size wq D nn ∧ Below w1.heap.size w1 wq) (fun i _ => nn - (intOf i).toNat)
        case atStart => exact ⟨0, Nat.zero_le _, rfl, HTT.out, hG, hbel⟩
        case round =>
          rename_i wq _ _
          obtain ⟨k2, hk2, rfl, hT2, hG2, hbel2⟩ := hrel
          have HT2 := Lib.hid hT2
          have HG2 := Lib.hid hG2
          clear hT2
          by_cases hlt2 : k2 < nn
          · obtain ⟨g, rfl, hg1, hg2, ⟨bb, hcb⟩, hfb⟩ := hG2 k2 hlt2
            clear hG2 hG
            have q1 : (0 : Int) ≤ (k2 : Int) := by omega
            have q2 : (k2 : Int) < (nn : Int) := by omega
            go_wp2
            go_roundw
            case rel => exact ⟨k2 + 1, by omega, by go_num, three_set HT2.out hg2 _, gone_set HG2.out _ _, own_set hbel2 hg1 _⟩
            case measure => simp [intOf]; omega
          · obtain rfl : k2 = nn := by omega
            clear hG2
            go_wp2
            go_roundw
            case rel => exact ⟨k + 1, by omega, by go_num, HT2.out, hbel2⟩
            case measure => simp [intOf]; omega
      · obtain rfl : k = 3 := by omega
        go_wp2_with (first
          | (go_at_call 14; refine (awake_any _).mono ?_; rintro e w5 ⟨rfl, hb5⟩)
          | (go_at_call 17; refine (same_any _ _ _ _ _ l _ hn hm (((hA.on hb1).on hbel).on hb5) ((Cells.of_own hown1).on hbel |>.on hb5)).mono ?_; rintro e w6 ⟨rfl, hb6⟩))
        go_ret
        exact ⟨rfl, below_own (below_own (below_own hb1 hbel) hb5) hb6⟩
end Go.Proofs.Ytpiifgmegdphpaa.lawChainOwns
