/-
  The walks of the two trims. Conditions: the list's cells lie as the hypotheses say, and it is no longer than memory holds.
-/
import Derived.Test.YtpiifgmegdphpaaChainAt
import Derived.Test.YtpiifgmegdphpaaOwn
namespace Go.Proofs.Ytpiifgmegdphpaa
open Go.RowKit
set_option linter.unusedVariables false


def keeps (l : List V) (r : Option Nat) (x : V) : Bool := match r.bind fun b => l[b]? with
  | none => true
  | some y => !vlt x y
/-- what is kept of the first k. -/
def trimTo (l : List V) (r : Option Nat) (k : Nat) : List V := (l.take k).filter (keeps l r)
theorem trimTo_le (l : List V) (r : Option Nat) (k : Nat) : (trimTo l r k).length ≤ k := by
  unfold trimTo
  exact Nat.le_trans (List.length_filter_le _ _) (by rw [List.length_take]; omega)
theorem take_snoc {l : List V} {k : Nat} {x : V} (hx : l[k]? = some x) : l.take (k + 1) = l.take k ++ [x] := by
  rw [List.take_add_one, hx]; rfl
theorem trimTo_yes {l : List V} {r : Option Nat} {k : Nat} {x : V} (hx : l[k]? = some x) (h : keeps l r x = true) : trimTo l r (k + 1) = trimTo l r k ++ [x] := by
  unfold trimTo; rw [take_snoc hx, List.filter_append]; simp [List.filter, h]
theorem trimTo_no {l : List V} {r : Option Nat} {k : Nat} {x : V} (hx : l[k]? = some x) (h : keeps l r x = false) : trimTo l r (k + 1) = trimTo l r k := by
  unfold trimTo; rw [take_snoc hx, List.filter_append]; simp [List.filter, h]
theorem trimTo_all (l : List V) (r : Option Nat) : trimTo l r l.length = trimmed l r := by
  unfold trimTo trimmed keeps
  rw [List.take_length]
  cases r.bind fun b => l[b]? <;> simp
/-- what a trim answers. -/
def TrimIs (l out : List V) (w : World) (e : Ending) (w' : World) : Prop := ∃ (D : Option Addr) (cp : Nat), e = .returned (.tuple #[.slice D out.length cp, .int .i64 ((l.length : Int) - (out.length : Int))]) ∧
  w'.ownsRow w.heap.size 25 6 (.slice D out.length cp) out.length (flatV out) ∧ Below w.heap.size w w'

set_option maxHeartbeats 2000000 in
theorem trim_none (A : Option Addr) (n c : Nat) (l : List V) (snap : Int) (w : World) (hn : l.length = n) (hm : n * 64 ≤ 140737488351232) (hA : Cells w A (flatV l)) (hr : seen l snap n = none) :
    Calls Try.prog 15 #[.slice A n c, .int .u64 snap] w (TrimIs l (trimmed l none) w) := by
  obtain ⟨i0, hi0, hz0, hz1, hz2⟩ := info_parts infoVer
  have hq : idx (seen l snap n) = -1 := by rw [hr]; rfl
  have HR := Lib.hid hr
  clear hr
  go_enter Try.func15, Try.ntmps15
  go_wp2_with (go_at_call 26; refine (at_any _ _ _ l _ _ hn (by omega) hA).mono ?_; rintro e w0 ⟨rfl, hb0⟩; rw [hq]; clear hq)
  go_loopw [7, 15] (fun o i wr => ∃ (k : Nat) (D : Option Addr) (cp : Nat), k ≤ n ∧ i = .int .i64 k ∧ o = .slice D (trimTo l none k).length cp ∧ wr.ownsRow w.heap.size 25 6 (.slice D (trimTo l none k).length cp) (trimTo l none k).length (flatV (trimTo l none k)) ∧ Below w.heap.size w wr) (fun _ i _ => n - (intOf i).toNat)
  case atStart => exact ⟨0, none, 0, Nat.zero_le _, rfl, rfl, World.ownsRow_nil _ _ _ _, hb0⟩
  case round =>
    obtain ⟨k, D, cp, hk, rfl, rfl, hown, hbel⟩ := hrel
    have hle := trimTo_le l none k
    by_cases hlt : k < n
    · obtain ⟨x, hx⟩ : ∃ x, l[k]? = some x := ⟨_, List.getElem?_eq_getElem (by omega)⟩
      obtain ⟨b, off, rfl, hc⟩ := hA.ver hx
      obtain ⟨x0, x1, x2, x3, x4, x5⟩ := hc k x hx
      have x0' := cell_on hbel x0
      have x1' := cell_on hbel x1
      have x2' := cell_on hbel x2
      have x3' := cell_on hbel x3
      have x4' := cell_on hbel x4
      have x5' := cell_on hbel x5
      have hbl : b < wr.heap.size := World.block_lt_of_cell? _ _ x0'
      have g3 : (0 : Int) ≤ (k : Int) := by omega
      have g4 : (k : Int) < (n : Int) := by omega
      have hs := trimTo_yes (r := none) hx rfl
      have HS := Lib.hid hs
      clear hs
      go_wp2_with fail
      go_quiet (fail)
      go_wp2_with (at_builtin; refine wpList_append_lies _ rfl _ _ 22 rfl w.heap.size 25 i0 (.agg #[.string ⟨#[]⟩, .string ⟨#[]⟩, .bool false, .int .u64 0, .int .i64 0, .int .i64 0]) 6 64 Try.underlying22 hi0 hz0 hz1 hz2 rfl (by omega) _ _ _ rfl ((row_drewN (hown.alloc _) _).alloc _) _ 1 1 x.cells rfl rfl (news_at _ _ _ _ (by first | rfl | (show _ = (Array.push _ _).size; simp))) (one_ver x) (by omega) (by unfold maxLen; omega) (by omega) (own_alloc (own_drewN (own_alloc hbel _) _) _).size _ rfl ?_; intro g cap w2 hown2 hgrow2 hat2 hlt2)
      go_roundw
      case rel => exact ⟨k + 1, some ⟨g, 0, none⟩, cap, by omega, by go_num, by rw [HS.out]; simp, by rw [HS.out, flatV_snoc]; simpa using hown2, below_grown (own_alloc (own_drewN (own_alloc hbel _) _) _) (((row_drewN (hown.alloc _) _).alloc _)) (Nat.le_refl _) hgrow2⟩
      case measure => simp [intOf]; omega
    · obtain rfl : k = n := by omega
      have he : trimTo l none k = trimmed l none := by rw [← hn]; exact trimTo_all l none
      have HE := Lib.hid he
      clear he
      go_wp2
      go_ret2
      exact ⟨D, cp, by rw [← HE.out, hn]; rfl, by rw [← HE.out]; exact hown, hbel⟩

set_option maxHeartbeats 2000000 in
theorem trim_some (A : Option Addr) (n c : Nat) (l : List V) (snap : Int) (w : World) (hn : l.length = n) (hm : n * 64 ≤ 140737488351232) (hA : Cells w A (flatV l)) (a : Nat) (y : V) (hr : seen l snap n = some a) (hak : a < n) (hy : l[a]? = some y) :
    Calls Try.prog 15 #[.slice A n c, .int .u64 snap] w (TrimIs l (trimmed l (some a)) w) := by
  obtain ⟨i0, hi0, hz0, hz1, hz2⟩ := info_parts infoVer
  have hq : idx (seen l snap n) = (a : Int) := by rw [hr]; rfl
  have HR := Lib.hid hr
  clear hr
  go_enter Try.func15, Try.ntmps15
  go_wp2_with (go_at_call 26; refine (at_any _ _ _ l _ _ hn (by omega) hA).mono ?_; rintro e w0 ⟨rfl, hb0⟩; rw [hq]; clear hq)
  go_loopw [7, 15] (fun o i wr => ∃ (k : Nat) (D : Option Addr) (cp : Nat), k ≤ n ∧ i = .int .i64 k ∧ o = .slice D (trimTo l (some a) k).length cp ∧ wr.ownsRow w.heap.size 25 6 (.slice D (trimTo l (some a) k).length cp) (trimTo l (some a) k).length (flatV (trimTo l (some a) k)) ∧ Below w.heap.size w wr) (fun _ i _ => n - (intOf i).toNat)
  case atStart => exact ⟨0, none, 0, Nat.zero_le _, rfl, rfl, World.ownsRow_nil _ _ _ _, hb0⟩
  case round =>
    obtain ⟨k, D, cp, hk, rfl, rfl, hown, hbel⟩ := hrel
    have hle := trimTo_le l (some a) k
    by_cases hlt : k < n
    · obtain ⟨x, hx⟩ : ∃ x, l[k]? = some x := ⟨_, List.getElem?_eq_getElem (by omega)⟩
      obtain ⟨b, off, rfl, hc⟩ := hA.ver hx
      obtain ⟨x0, x1, x2, x3, x4, x5⟩ := hc k x hx
      have x0' := cell_on hbel x0
      have x1' := cell_on hbel x1
      have x2' := cell_on hbel x2
      have x3' := cell_on hbel x3
      have x4' := cell_on hbel x4
      have x5' := cell_on hbel x5
      have hbl : b < wr.heap.size := World.block_lt_of_cell? _ _ x0'
      have g3 : (0 : Int) ≤ (k : Int) := by omega
      have g4 : (k : Int) < (n : Int) := by omega
      obtain ⟨y0, y1, y2, y3, y4, y5⟩ := hc a y hy
      have y0' := cell_on hbel y0
      have y1' := cell_on hbel y1
      have y2' := cell_on hbel y2
      have y3' := cell_on hbel y3
      have y4' := cell_on hbel y4
      have y5' := cell_on hbel y5
      have g1 : (0 : Int) ≤ (a : Int) := by omega
      have g2 : (a : Int) < (n : Int) := by omega
      have g5 : decide ((a : Int) < 0) = false := by simp
      rcases hxy : vlt x y with _ | _
      · have g6 := vcmp_pos hxy
        have hs := trimTo_yes (r := some a) hx (by unfold keeps; simp [hy, hxy])
        have HS := Lib.hid hs
        clear hs hc
        go_wp2_with fail
        go_region_held3 (fun w' => Below wr.heap.size wr w' ∧ w'.cell? ⟨wr.heap.size, 0, none⟩ = some (.string x.key) ∧ w'.cell? ⟨wr.heap.size, 1, none⟩ = some (.string x.val) ∧ w'.cell? ⟨wr.heap.size, 2, none⟩ = some (.bool x.gone) ∧ w'.cell? ⟨wr.heap.size, 3, none⟩ = some (.int .u64 x.ts) ∧ w'.cell? ⟨wr.heap.size, 4, none⟩ = some (.int .i64 x.dc) ∧ w'.cell? ⟨wr.heap.size, 5, none⟩ = some (.int .i64 x.tx) ∧ w'.cell? ⟨b, off + a * 6, none⟩ = some (.string y.key) ∧ w'.cell? ⟨b, off + a * 6 + 1, none⟩ = some (.string y.val) ∧ w'.cell? ⟨b, off + a * 6 + 2, none⟩ = some (.bool y.gone) ∧ w'.cell? ⟨b, off + a * 6 + 3, none⟩ = some (.int .u64 y.ts) ∧ w'.cell? ⟨b, off + a * 6 + 4, none⟩ = some (.int .i64 y.dc) ∧ w'.cell? ⟨b, off + a * 6 + 5, none⟩ = some (.int .i64 y.tx))
          (first | (refine ⟨own_drew (own_alloc (own_refl _) _), ?_, ?_, ?_, ?_, ?_, ?_, ?_, ?_, ?_, ?_, ?_, ?_⟩ <;> (go_simp; done)) | (go_split_ands; refine ⟨below_own (by assumption) (by assumption), ?_, ?_, ?_, ?_, ?_, ?_, ?_, ?_, ?_, ?_, ?_, ?_⟩ <;> exact cell_on (by assumption) (by assumption)))
          (first | (go_at_call 29; refine (hof_any _ _ _ _ _ _ _).mono ?_; rintro e w1 ⟨rfl, hb1⟩) | (go_at_call 28; refine (cmp_any _ _ _ _ _ _ _).mono ?_; rintro e w1 ⟨rfl, hb1⟩))
        rename_i hS
        obtain ⟨hb', s0, s1, s2, s3, s4, s5, s6, s7, s8, s9, s10, s11⟩ := hS
        go_wp2_with (at_builtin; refine wpList_append_lies _ rfl _ _ 22 rfl w.heap.size 25 i0 (.agg #[.string ⟨#[]⟩, .string ⟨#[]⟩, .bool false, .int .u64 0, .int .i64 0, .int .i64 0]) 6 64 Try.underlying22 hi0 hz0 hz1 hz2 rfl (by omega) _ _ _ rfl ((own_on hown hb').alloc _) _ 1 1 x.cells rfl rfl (news_at _ _ _ _ (by first | rfl | (show _ = (Array.push _ _).size; simp))) (one_ver x) (by omega) (by unfold maxLen; omega) (by omega) (own_alloc (below_own hbel hb') _).size _ rfl ?_; intro g cap w2 hown2 hgrow2 hat2 hlt2)
        go_roundw
        case rel => exact ⟨k + 1, some ⟨g, 0, none⟩, cap, by omega, by go_num, by rw [HS.out]; simp, by rw [HS.out, flatV_snoc]; simpa using hown2, below_grown (own_alloc (below_own hbel hb') _) ((own_on hown hb').alloc _) (Nat.le_refl _) hgrow2⟩
        case measure => simp [intOf]; omega
      · have g6 := vcmp_neg hxy
        have hs := trimTo_no (r := some a) hx (by unfold keeps; simp [hy, hxy])
        have HS := Lib.hid hs
        clear hs hc
        go_wp2_with fail
        go_region_held3 (fun w' => Below wr.heap.size wr w' ∧ w'.cell? ⟨wr.heap.size, 0, none⟩ = some (.string x.key) ∧ w'.cell? ⟨wr.heap.size, 1, none⟩ = some (.string x.val) ∧ w'.cell? ⟨wr.heap.size, 2, none⟩ = some (.bool x.gone) ∧ w'.cell? ⟨wr.heap.size, 3, none⟩ = some (.int .u64 x.ts) ∧ w'.cell? ⟨wr.heap.size, 4, none⟩ = some (.int .i64 x.dc) ∧ w'.cell? ⟨wr.heap.size, 5, none⟩ = some (.int .i64 x.tx) ∧ w'.cell? ⟨b, off + a * 6, none⟩ = some (.string y.key) ∧ w'.cell? ⟨b, off + a * 6 + 1, none⟩ = some (.string y.val) ∧ w'.cell? ⟨b, off + a * 6 + 2, none⟩ = some (.bool y.gone) ∧ w'.cell? ⟨b, off + a * 6 + 3, none⟩ = some (.int .u64 y.ts) ∧ w'.cell? ⟨b, off + a * 6 + 4, none⟩ = some (.int .i64 y.dc) ∧ w'.cell? ⟨b, off + a * 6 + 5, none⟩ = some (.int .i64 y.tx))
          (first | (refine ⟨own_drew (own_alloc (own_refl _) _), ?_, ?_, ?_, ?_, ?_, ?_, ?_, ?_, ?_, ?_, ?_, ?_⟩ <;> (go_simp; done)) | (go_split_ands; refine ⟨below_own (by assumption) (by assumption), ?_, ?_, ?_, ?_, ?_, ?_, ?_, ?_, ?_, ?_, ?_, ?_⟩ <;> exact cell_on (by assumption) (by assumption)))
          (first | (go_at_call 29; refine (hof_any _ _ _ _ _ _ _).mono ?_; rintro e w1 ⟨rfl, hb1⟩) | (go_at_call 28; refine (cmp_any _ _ _ _ _ _ _).mono ?_; rintro e w1 ⟨rfl, hb1⟩))
        rename_i hS
        obtain ⟨hb', s0, s1, s2, s3, s4, s5, s6, s7, s8, s9, s10, s11⟩ := hS
        go_wp2
        go_roundw
        case rel => exact ⟨k + 1, D, cp, by omega, by go_num, by rw [HS.out], by rw [HS.out]; exact own_on hown hb', below_own hbel hb'⟩
        case measure => simp [intOf]; omega
    · obtain rfl : k = n := by omega
      have he : trimTo l (some a) k = trimmed l (some a) := by rw [← hn]; exact trimTo_all l (some a)
      have HE := Lib.hid he
      clear he
      go_wp2
      go_ret2
      exact ⟨D, cp, by rw [← HE.out, hn]; rfl, by rw [← HE.out]; exact hown, hbel⟩

set_option maxHeartbeats 2000000 in
theorem rtrim_none (A : Option Addr) (n c : Nat) (l : List V) (snap : Int) (w : World) (hn : l.length = n) (hm : n * 64 ≤ 140737488351232) (hA : Cells w A (flatV l)) (hr : seen l snap n = none) :
    Calls Try.prog 16 #[.slice A n c, .int .u64 snap] w (TrimIs l (trimmed l none) w) := by
  obtain ⟨i0, hi0, hz0, hz1, hz2⟩ := info_parts infoVer
  have hq : idx (seen l snap n) = -1 := by rw [hr]; rfl
  have HR := Lib.hid hr
  clear hr
  go_enter Try.func16, Try.ntmps16
  go_wp2_with (go_at_call 27; refine (seen_any _ _ _ l _ _ hn (by omega) hA).mono ?_; rintro e w0 ⟨rfl, hb0⟩; rw [hq]; clear hq)
  go_loopw [7, 8] (fun o i wr => ∃ (k : Nat) (D : Option Addr) (cp : Nat), k ≤ n ∧ i = .int .i64 k ∧ o = .slice D (trimTo l none k).length cp ∧ wr.ownsRow w.heap.size 25 6 (.slice D (trimTo l none k).length cp) (trimTo l none k).length (flatV (trimTo l none k)) ∧ Below w.heap.size w wr) (fun _ i _ => n - (intOf i).toNat)
  case atStart => exact ⟨0, none, 0, Nat.zero_le _, rfl, rfl, World.ownsRow_nil _ _ _ _, hb0⟩
  case round =>
    obtain ⟨k, D, cp, hk, rfl, rfl, hown, hbel⟩ := hrel
    have hle := trimTo_le l none k
    by_cases hlt : k < n
    · obtain ⟨x, hx⟩ : ∃ x, l[k]? = some x := ⟨_, List.getElem?_eq_getElem (by omega)⟩
      obtain ⟨b, off, rfl, hc⟩ := hA.ver hx
      obtain ⟨x0, x1, x2, x3, x4, x5⟩ := hc k x hx
      have x0' := cell_on hbel x0
      have x1' := cell_on hbel x1
      have x2' := cell_on hbel x2
      have x3' := cell_on hbel x3
      have x4' := cell_on hbel x4
      have x5' := cell_on hbel x5
      have hbl : b < wr.heap.size := World.block_lt_of_cell? _ _ x0'
      have g3 : (0 : Int) ≤ (k : Int) := by omega
      have g4 : (k : Int) < (n : Int) := by omega
      have hs := trimTo_yes (r := none) hx rfl
      have HS := Lib.hid hs
      clear hs
      go_wp2_with fail
      go_quiet (fail)
      go_wp2_with (at_builtin; refine wpList_append_lies _ rfl _ _ 22 rfl w.heap.size 25 i0 (.agg #[.string ⟨#[]⟩, .string ⟨#[]⟩, .bool false, .int .u64 0, .int .i64 0, .int .i64 0]) 6 64 Try.underlying22 hi0 hz0 hz1 hz2 rfl (by omega) _ _ _ rfl ((row_drewN hown _).alloc _) _ 1 1 x.cells rfl rfl (news_at _ _ _ _ (by first | rfl | (show _ = (Array.push _ _).size; simp))) (one_ver x) (by omega) (by unfold maxLen; omega) (by omega) (own_alloc (own_drewN hbel _) _).size _ rfl ?_; intro g cap w2 hown2 hgrow2 hat2 hlt2)
      go_roundw
      case rel => exact ⟨k + 1, some ⟨g, 0, none⟩, cap, by omega, by go_num, by rw [HS.out]; simp, by rw [HS.out, flatV_snoc]; simpa using hown2, below_grown (own_alloc (own_drewN hbel _) _) (((row_drewN hown _).alloc _)) (Nat.le_refl _) hgrow2⟩
      case measure => simp [intOf]; omega
    · obtain rfl : k = n := by omega
      have he : trimTo l none k = trimmed l none := by rw [← hn]; exact trimTo_all l none
      have HE := Lib.hid he
      clear he
      go_wp2
      go_ret2
      exact ⟨D, cp, by rw [← HE.out, hn]; rfl, by rw [← HE.out]; exact hown, hbel⟩

set_option maxHeartbeats 2000000 in
theorem rtrim_some (A : Option Addr) (n c : Nat) (l : List V) (snap : Int) (w : World) (hn : l.length = n) (hm : n * 64 ≤ 140737488351232) (hA : Cells w A (flatV l)) (a : Nat) (y : V) (hr : seen l snap n = some a) (hak : a < n) (hy : l[a]? = some y) :
    Calls Try.prog 16 #[.slice A n c, .int .u64 snap] w (TrimIs l (trimmed l (some a)) w) := by
  obtain ⟨i0, hi0, hz0, hz1, hz2⟩ := info_parts infoVer
  have hq : idx (seen l snap n) = (a : Int) := by rw [hr]; rfl
  have HR := Lib.hid hr
  clear hr
  go_enter Try.func16, Try.ntmps16
  go_wp2_with (go_at_call 27; refine (seen_any _ _ _ l _ _ hn (by omega) hA).mono ?_; rintro e w0 ⟨rfl, hb0⟩; rw [hq]; clear hq)
  go_loopw [7, 8] (fun o i wr => ∃ (k : Nat) (D : Option Addr) (cp : Nat), k ≤ n ∧ i = .int .i64 k ∧ o = .slice D (trimTo l (some a) k).length cp ∧ wr.ownsRow w.heap.size 25 6 (.slice D (trimTo l (some a) k).length cp) (trimTo l (some a) k).length (flatV (trimTo l (some a) k)) ∧ Below w.heap.size w wr) (fun _ i _ => n - (intOf i).toNat)
  case atStart => exact ⟨0, none, 0, Nat.zero_le _, rfl, rfl, World.ownsRow_nil _ _ _ _, hb0⟩
  case round =>
    obtain ⟨k, D, cp, hk, rfl, rfl, hown, hbel⟩ := hrel
    have hle := trimTo_le l (some a) k
    by_cases hlt : k < n
    · obtain ⟨x, hx⟩ : ∃ x, l[k]? = some x := ⟨_, List.getElem?_eq_getElem (by omega)⟩
      obtain ⟨b, off, rfl, hc⟩ := hA.ver hx
      obtain ⟨x0, x1, x2, x3, x4, x5⟩ := hc k x hx
      have x0' := cell_on hbel x0
      have x1' := cell_on hbel x1
      have x2' := cell_on hbel x2
      have x3' := cell_on hbel x3
      have x4' := cell_on hbel x4
      have x5' := cell_on hbel x5
      have hbl : b < wr.heap.size := World.block_lt_of_cell? _ _ x0'
      have g3 : (0 : Int) ≤ (k : Int) := by omega
      have g4 : (k : Int) < (n : Int) := by omega
      obtain ⟨y0, y1, y2, y3, y4, y5⟩ := hc a y hy
      have y0' := cell_on hbel y0
      have y1' := cell_on hbel y1
      have y2' := cell_on hbel y2
      have y3' := cell_on hbel y3
      have y4' := cell_on hbel y4
      have y5' := cell_on hbel y5
      have g1 : (0 : Int) ≤ (a : Int) := by omega
      have g2 : (a : Int) < (n : Int) := by omega
      have g5 : decide ((a : Int) < 0) = false := by simp
      rcases hxy : vlt x y with _ | _
      · have g6 := vcmp_pos hxy
        have hs := trimTo_yes (r := some a) hx (by unfold keeps; simp [hy, hxy])
        have HS := Lib.hid hs
        clear hs hc
        go_wp2_with fail
        go_region_held3 (fun w' => Below wr.heap.size wr w' ∧ w'.cell? ⟨b, off + k * 6, none⟩ = some (.string x.key) ∧ w'.cell? ⟨b, off + k * 6 + 1, none⟩ = some (.string x.val) ∧ w'.cell? ⟨b, off + k * 6 + 2, none⟩ = some (.bool x.gone) ∧ w'.cell? ⟨b, off + k * 6 + 3, none⟩ = some (.int .u64 x.ts) ∧ w'.cell? ⟨b, off + k * 6 + 4, none⟩ = some (.int .i64 x.dc) ∧ w'.cell? ⟨b, off + k * 6 + 5, none⟩ = some (.int .i64 x.tx) ∧ w'.cell? ⟨b, off + a * 6, none⟩ = some (.string y.key) ∧ w'.cell? ⟨b, off + a * 6 + 1, none⟩ = some (.string y.val) ∧ w'.cell? ⟨b, off + a * 6 + 2, none⟩ = some (.bool y.gone) ∧ w'.cell? ⟨b, off + a * 6 + 3, none⟩ = some (.int .u64 y.ts) ∧ w'.cell? ⟨b, off + a * 6 + 4, none⟩ = some (.int .i64 y.dc) ∧ w'.cell? ⟨b, off + a * 6 + 5, none⟩ = some (.int .i64 y.tx))
          (first | (refine ⟨own_drew (own_refl _), ?_, ?_, ?_, ?_, ?_, ?_, ?_, ?_, ?_, ?_, ?_, ?_⟩ <;> (go_simp; done)) | (go_split_ands; refine ⟨below_own (by assumption) (by assumption), ?_, ?_, ?_, ?_, ?_, ?_, ?_, ?_, ?_, ?_, ?_, ?_⟩ <;> exact cell_on (by assumption) (by assumption)))
          (first | (go_at_call 30; refine (rless_any x y _).mono ?_; rintro e w1 ⟨rfl, hb1⟩; rw [hxy]))
        rename_i hS
        obtain ⟨hb', s0, s1, s2, s3, s4, s5, s6, s7, s8, s9, s10, s11⟩ := hS
        go_wp2_with (at_builtin; refine wpList_append_lies _ rfl _ _ 22 rfl w.heap.size 25 i0 (.agg #[.string ⟨#[]⟩, .string ⟨#[]⟩, .bool false, .int .u64 0, .int .i64 0, .int .i64 0]) 6 64 Try.underlying22 hi0 hz0 hz1 hz2 rfl (by omega) _ _ _ rfl ((own_on hown hb').alloc _) _ 1 1 x.cells rfl rfl (news_at _ _ _ _ (by first | rfl | (show _ = (Array.push _ _).size; simp))) (one_ver x) (by omega) (by unfold maxLen; omega) (by omega) (own_alloc (below_own hbel hb') _).size _ rfl ?_; intro g cap w2 hown2 hgrow2 hat2 hlt2)
        go_roundw
        case rel => exact ⟨k + 1, some ⟨g, 0, none⟩, cap, by omega, by go_num, by rw [HS.out]; simp, by rw [HS.out, flatV_snoc]; simpa using hown2, below_grown (own_alloc (below_own hbel hb') _) ((own_on hown hb').alloc _) (Nat.le_refl _) hgrow2⟩
        case measure => simp [intOf]; omega
      · have g6 := vcmp_neg hxy
        have hs := trimTo_no (r := some a) hx (by unfold keeps; simp [hy, hxy])
        have HS := Lib.hid hs
        clear hs hc
        go_wp2_with fail
        go_region_held3 (fun w' => Below wr.heap.size wr w' ∧ w'.cell? ⟨b, off + k * 6, none⟩ = some (.string x.key) ∧ w'.cell? ⟨b, off + k * 6 + 1, none⟩ = some (.string x.val) ∧ w'.cell? ⟨b, off + k * 6 + 2, none⟩ = some (.bool x.gone) ∧ w'.cell? ⟨b, off + k * 6 + 3, none⟩ = some (.int .u64 x.ts) ∧ w'.cell? ⟨b, off + k * 6 + 4, none⟩ = some (.int .i64 x.dc) ∧ w'.cell? ⟨b, off + k * 6 + 5, none⟩ = some (.int .i64 x.tx) ∧ w'.cell? ⟨b, off + a * 6, none⟩ = some (.string y.key) ∧ w'.cell? ⟨b, off + a * 6 + 1, none⟩ = some (.string y.val) ∧ w'.cell? ⟨b, off + a * 6 + 2, none⟩ = some (.bool y.gone) ∧ w'.cell? ⟨b, off + a * 6 + 3, none⟩ = some (.int .u64 y.ts) ∧ w'.cell? ⟨b, off + a * 6 + 4, none⟩ = some (.int .i64 y.dc) ∧ w'.cell? ⟨b, off + a * 6 + 5, none⟩ = some (.int .i64 y.tx))
          (first | (refine ⟨own_drew (own_refl _), ?_, ?_, ?_, ?_, ?_, ?_, ?_, ?_, ?_, ?_, ?_, ?_⟩ <;> (go_simp; done)) | (go_split_ands; refine ⟨below_own (by assumption) (by assumption), ?_, ?_, ?_, ?_, ?_, ?_, ?_, ?_, ?_, ?_, ?_, ?_⟩ <;> exact cell_on (by assumption) (by assumption)))
          (first | (go_at_call 30; refine (rless_any x y _).mono ?_; rintro e w1 ⟨rfl, hb1⟩; rw [hxy]))
        rename_i hS
        obtain ⟨hb', s0, s1, s2, s3, s4, s5, s6, s7, s8, s9, s10, s11⟩ := hS
        go_wp2
        go_roundw
        case rel => exact ⟨k + 1, D, cp, by omega, by go_num, by rw [HS.out], by rw [HS.out]; exact own_on hown hb', below_own hbel hb'⟩
        case measure => simp [intOf]; omega
    · obtain rfl : k = n := by omega
      have he : trimTo l (some a) k = trimmed l (some a) := by rw [← hn]; exact trimTo_all l (some a)
      have HE := Lib.hid he
      clear he
      go_wp2
      go_ret2
      exact ⟨D, cp, by rw [← HE.out, hn]; rfl, by rw [← HE.out]; exact hown, hbel⟩

theorem trimmed_le (l : List V) (r : Option Nat) : (trimmed l r).length ≤ l.length := by
  rw [← trimTo_all]; unfold trimTo; exact Nat.le_trans (List.length_filter_le _ _) (by rw [List.length_take]; omega)
theorem trim_is (A : Option Addr) (n c : Nat) (l : List V) (snap : Int) (w : World) (hn : l.length = n) (hm : n * 64 ≤ 140737488351232) (hA : Cells w A (flatV l)) :
    Calls Try.prog 15 #[.slice A n c, .int .u64 snap] w (TrimIs l (trimmed l (seen l snap n)) w) := by
  cases hr : seen l snap n with
  | none => exact trim_none A n c l snap w hn hm hA hr
  | some a =>
    obtain ⟨ha, y, hy, _⟩ := seen_lt l snap n a hr
    exact trim_some A n c l snap w hn hm hA a y hr ha hy
theorem rtrim_is (A : Option Addr) (n c : Nat) (l : List V) (snap : Int) (w : World) (hn : l.length = n) (hm : n * 64 ≤ 140737488351232) (hA : Cells w A (flatV l)) :
    Calls Try.prog 16 #[.slice A n c, .int .u64 snap] w (TrimIs l (trimmed l (seen l snap n)) w) := by
  cases hr : seen l snap n with
  | none => exact rtrim_none A n c l snap w hn hm hA hr
  | some a =>
    obtain ⟨ha, y, hy, _⟩ := seen_lt l snap n a hr
    exact rtrim_some A n c l snap w hn hm hA a y hr ha hy
end Go.Proofs.Ytpiifgmegdphpaa
