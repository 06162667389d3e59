/-
  What is seen of a key: the program's walk. Conditions: the history lies as the hypotheses say.
-/
import Derived.Test.YtiapolcpebilmaaWantP
import Derived.Test.YtiapolcpebilmaaHistT
import Derived.Test.YtiapolcpebilmaaVerEq
import Derived.Test.YtiapolcpebilmaaMarkT
import Derived.Test.YtiapolcpebilmaaTurn
import Derived.Deep.RegionHeld3
import Derived.Deep.QuietTactic
import Derived.BigQuiet
import Derived.Outline
import Derived.Lib.Hide
import Derived.IntWalk
import Derived.BigRegion
namespace Go.Proofs.Ytiapolcpebilmaa
open Go.RowKit Go.ChangeShapes Go.WideShapes Go.Deep Go.Maps
set_option linter.unusedVariables false

/-- what a search answers. -/
def WantIs (l : List Txn) (i : Nat) (key : ByteArray) (w : World) (e : Ending) (w' : World) : Prop := e = .returned (.tuple #[((want l i key).getD v0).v, .bool (want l i key).isSome]) ∧ Below w.heap.size w w'
theorem cmp_below {u : V} {t : Txn} (h : better (some u) t = true) : mcmp u.ts u.dc u.tx t.ts t.dc t.tx = -1 := by
  unfold mcmp; rw [if_pos (show mlt _ _ _ _ _ _ = true from h)]
theorem cmp_above {u : V} {t : Txn} (h : better (some u) t = false) : mcmp u.ts u.dc u.tx t.ts t.dc t.tx = 0 ∨ mcmp u.ts u.dc u.tx t.ts t.dc t.tx = 1 := by
  have h' : mlt u.ts u.dc u.tx t.ts t.dc t.tx = false := h
  unfold mcmp; rw [h']
  cases mlt t.ts t.dc t.tx u.ts u.dc u.tx <;> simp
theorem want_leave {w W : World} {tmps : Array Value} {l : List Txn} {i : Nat} {key : ByteArray} (v : V) (b : Bool) (hB : BoxV W w.heap.size v) (h6 : tmps.getD 6 undef = .pointer (some ⟨w.heap.size, 0, none⟩)) (h7 : tmps.getD 7 undef = .bool b)
    (hb : Below w.heap.size w W) (hv : v = (want l i key).getD v0) (hi : b = (want l i key).isSome) : bodyPost Try.prog Try.f15 (WantIs l i key w) .ret ⟨tmps, []⟩ W := by
  obtain ⟨⟨c0, c1, c2, c3, c4, c5⟩, -, -⟩ := hB
  have h6' : tmps[6]?.getD undef = .pointer (some ⟨w.heap.size, 0, none⟩) := by simpa using h6
  have h7' : tmps[7]?.getD undef = .bool b := by simpa using h7
  refine bodyPost_ret (v := .tuple #[v.v, .bool b]) (by simp [results, Try.results15, go_sem, h6', h7', c0, c1, c2, c3, c4, c5, V.v]) rfl ⟨by rw [hv, hi], hb⟩
set_option maxRecDepth 100000 in
set_option maxHeartbeats 4000000 in
theorem hwant_any (A : Option Addr) (n c : Nat) (l : List TI) (w : World) (hn : l.length = n) (hA : Cells w A (flatTI l)) (hm : n ≤ 9223372036854775807) (hall : ∀ x ∈ l, x.ok w) (i : Nat) (key : ByteArray) :
    Calls Try.prog 15 #[.slice A n c, .int .i64 i, .string key] w (WantIs (l.map TI.t) i key w) := by
  go_enter Try.func15, Try.ntmps15
  go_wp2
  go_loopw [9, 18] (fun is q wr => ∃ (k : Nat), k ≤ n ∧ q = .int .i64 k ∧ is = .bool (wantTo (l.map TI.t) i key k).isSome ∧ Below w.heap.size w wr ∧ BoxV wr w.heap.size v0 ∧ BoxV wr (w.heap.size + 1) ((wantTo (l.map TI.t) i key k).getD v0)) (fun _ q _ => n - (intOf q).toNat)
  case atStart => exact ⟨0, Nat.zero_le _, rfl, rfl, own_alloc (own_alloc (own_refl _) _) _, (BoxV.new _ v0 _).on (own_alloc (own_refl _) _), BoxV.new2 _ _ v0 _⟩
  case round =>
    obtain ⟨k, hk, rfl, rfl, hbel, hr, hbest⟩ := hrel
    by_cases hlt : k < n
    · obtain ⟨x, hx⟩ : ∃ x, l[k]? = some x := ⟨_, List.getElem?_eq_getElem (by omega)⟩
      have hx' : (l.map TI.t)[k]? = some x.t := by rw [List.getElem?_map, hx]; rfl
      obtain ⟨b, off, hAe, x0, x1, x2, x3, x4, x5, x6, x7⟩ := get_tx (hA.on hbel) hx
      subst hAe
      have g3 : (0 : Int) ≤ (k : Int) := by omega
      have g4 : (k : Int) < (n : Int) := by omega
      obtain ⟨cur, hcur⟩ : ∃ cur, wantTo (l.map TI.t) i key k = cur := ⟨_, rfl⟩
      rw [hcur] at hbest ⊢
      obtain ⟨se, hse⟩ : ∃ se, sees (l.map TI.t) (i : Int) (k : Int) = se := ⟨_, rfl⟩
      have HSE := Lib.hid hse
      have HCUR := Lib.hid hcur
      have HX := Lib.hid hx'
      clear hcur hx'
      have HXA := Lib.hid (hall x (List.mem_of_getElem? hx))
      cases se
      · clear hse
        go_wp2_with (go_at_call 13; refine (hsees_any _ n c l _ hn ((hA.on hbel).on (own_alloc (own_refl _) _)) i k).mono ?_; rintro e w1 ⟨rfl, hb1⟩; rw [HSE.out])
        have hbw : Below wr.heap.size wr w1 := below_own (own_alloc (own_refl _) _) hb1
        go_roundw
        case rel => exact ⟨k + 1, by omega, by go_num, by rw [want_no HX.out HSE.out, HCUR.out], below_own hbel hbw, hr.on hbw, by rw [want_no HX.out HSE.out, HCUR.out]; exact hbest.on hbw⟩
        case measure => simp [intOf]; omega
      · clear hse
        go_wp2_with (go_at_call 13; refine (hsees_any _ n c l _ hn ((hA.on hbel).on (own_alloc (own_refl _) _)) i k).mono ?_; rintro e w1 ⟨rfl, hb1⟩; rw [HSE.out]; have ht1 := (BoxT.new _ x _).on hb1; obtain ⟨⟨t0, t1, t2, t3, t4, t5, t6, t7⟩, -, -⟩ := id ht1)
        have hbw : Below wr.heap.size wr w1 := below_own (own_alloc (own_refl _) _) hb1
        have hbel1 := below_own hbel hbw
        have hr1 := hr.on hbw
        have hbest1 := hbest.on hbw
        obtain ⟨gT, hgT⟩ : ∃ g, wr.heap.size = g := ⟨_, rfl⟩
        rw [hgT] at ht1 ⊢
        have hgne0 : ¬ gT = w.heap.size + 1 := by have := hbest.lt; omega
        clear x0 x1 x2 x3 x4 x5 x6 x7 t0 t1 t2 t3 t4 t5 t6 t7 hr hbest hbw hb1 hbel hgT
        go_loopw [9, 31] (fun is q wr => ∃ (m : Nat), m ≤ x.t.wrs.length ∧ q = .int .i64 m ∧ is = .bool (innerTo cur x.t key m).isSome ∧ Below w.heap.size w wr ∧ BoxV wr w.heap.size v0 ∧ BoxV wr (w.heap.size + 1) ((innerTo cur x.t key m).getD v0) ∧ BoxT wr gT x) (fun _ q _ => x.t.wrs.length - (intOf q).toNat)
        case atStart => exact ⟨0, Nat.zero_le _, rfl, by rw [inner_zero], hbel1, hr1, by rw [inner_zero]; exact hbest1, ht1⟩
        case round =>
          obtain ⟨m, hmm, rfl, rfl, hbel, hr, hbest, ht⟩ := hrel
          by_cases hlt2 : m < x.t.wrs.length
          · obtain ⟨v, hv⟩ : ∃ v, x.t.wrs[m]? = some v := ⟨_, List.getElem?_eq_getElem hlt2⟩
            obtain ⟨vb, vo, hDe, hvc⟩ := (HXA.out.at'.d.on hbel).ver hv
            obtain ⟨v0, v1, v2, v3, v4, v5⟩ := hvc m v hv
            clear hvc
            rw [hDe]
            have HD := Lib.hid hDe
            have HV := Lib.hid hv
            clear hDe hv
            obtain ⟨⟨t0, t1, t2, t3, t4, t5, t6, t7⟩, -, -⟩ := id ht
            go_wp2_with fail
            refine wp_from (fun W => Below wr.heap.size wr W ∧ BoxV W wr.heap.size v ∧ BoxV W (wr.heap.size + 1) v) ⟨own_alloc (own_alloc (own_refl _) _) _, (BoxV.new _ v _).on (own_alloc (own_refl _) _), BoxV.new2 _ _ v _⟩ ?_
            intro W ⟨hW1, hW2, hW3⟩
            have hWn := hW3.lt
            have t0 := cell_on hW1 t0
            have t1 := cell_on hW1 t1
            have t2 := cell_on hW1 t2
            have t3 := cell_on hW1 t3
            have t4 := cell_on hW1 t4
            have t5 := cell_on hW1 t5
            have t6 := cell_on hW1 t6
            have t7 := cell_on hW1 t7
            obtain ⟨⟨c0, c1, c2, c3, c4, c5⟩, cf, -⟩ := id hW3
            have cf3 := cf 3
            have cf4 := cf 4
            have cf5 := cf 5
            go_region
            go_wp2_with fail
            refine wp_from (fun W' => Below wr.heap.size wr W' ∧ BoxV W' wr.heap.size v ∧ BoxV W' (wr.heap.size + 1) (updV x.t v)) ⟨own_drew (own_set (own_set (own_set hW1 (Nat.le_succ _) _) (Nat.le_succ _) _) (Nat.le_succ _) _), (((hW2.other (by simp) _).other (by simp) _).other (by simp) _).drew, (hW3.marked x.t).drew⟩ ?_
            clear t0 t1 t2 t3 t4 t5 t6 t7 c0 c1 c2 c3 c4 c5 v0 v1 v2 v3 v4 v5 cf cf3 cf4 cf5 hW1 hW2 hW3 hWn
            clear W
            intro W ⟨hW1, hW2, hW3⟩
            obtain ⟨inn, hinn⟩ : ∃ inn, innerTo cur x.t key m = inn := ⟨_, rfl⟩
            rw [hinn] at hbest ⊢
            have HINN := Lib.hid hinn
            clear hinn
            have htW := ht.on hW1
            have hbW := hbest.on hW1
            have hrW := hr.on hW1
            obtain ⟨⟨c0, c1, c2, c3, c4, c5⟩, -, -⟩ := id hW2
            obtain ⟨⟨d0, d1, d2, d3, d4, d5⟩, -, -⟩ := id hW3
            obtain ⟨⟨t0, t1, t2, t3, t4, t5, t6, t7⟩, -, -⟩ := id htW
            obtain ⟨⟨e0, e1, e2, e3, e4, e5⟩, ef, -⟩ := id hbW
            have hszw := hbel.size
            have hdfit := HXA.out.dfit
            have hgne : ¬ gT = w.heap.size + 1 := hgne0
            cases hke : (v.key.toList == key.toList)
            · have HST := Lib.hid (inner_no (b := cur) (t := x.t) HV.out hke)
              go_quiet (fail)
              go_wp2
              go_roundw
              case rel => exact ⟨m + 1, by omega, by go_num, by rw [HST.out, HINN.out], own_drewN (below_own hbel hW1) _, hrW.on (own_drewN (own_refl _) _), by rw [HST.out, HINN.out]; exact hbW.on (own_drewN (own_refl _) _), htW.on (own_drewN (own_refl _) _)⟩
              case measure => simp [intOf]; omega
            · cases inn with
              | none =>
                have HST := Lib.hid (inner_new (b := cur) (t := x.t) HV.out hke (by rw [HINN.out]; rfl))
                go_quiet (fail)
                have htX := htW.on (own_drewN (own_refl _) 1)
                have hbX := hbW.on (own_drewN (own_refl _) 1)
                have hrX := hrW.on (own_drewN (own_refl _) 1)
                have hf0 := ef 0
                have hf1 := ef 1
                have hf2 := ef 2
                have hf3 := ef 3
                have hf4 := ef 4
                have hf5 := ef 5
                go_wp2
                go_roundw
                case rel => exact ⟨m + 1, by omega, by go_num, by rw [HST.out]; rfl, (own_set (own_set (own_set (own_set (own_set (own_set (own_drewN (below_own hbel hW1) _) (Nat.le_succ _) _) (Nat.le_succ _) _) (Nat.le_succ _) _) (Nat.le_succ _) _) (Nat.le_succ _) _) (Nat.le_succ _) _), ((((((hrW.on (own_drewN (own_refl _) _)).other (by simp) _).other (by simp) _).other (by simp) _).other (by simp) _).other (by simp) _).other (by simp) _, by rw [HST.out]; exact (hbW.on (own_drewN (own_refl _) _)).stored _, ((((((htW.on (own_drewN (own_refl _) _)).other hgne _).other hgne _).other hgne _).other hgne _).other hgne _).other hgne _⟩
                case measure => simp [intOf]; omega
              | some u =>
                replace hbW : BoxV W (w.heap.size + 1) u := hbW
                obtain ⟨⟨g0, g1, g2, g3, g4, g5⟩, gf, -⟩ := id hbW
                clear e0 e1 e2 e3 e4 e5 ef
                have hf0 := gf 0
                have hf1 := gf 1
                have hf2 := gf 2
                have hf3 := gf 3
                have hf4 := gf 4
                have hf5 := gf 5
                cases hbt : better (some u) x.t
                · have HST := Lib.hid (inner_old (key := key) HV.out (by rw [HINN.out]; exact hbt))
                  rcases cmp_above hbt with hc | hc
                  all_goals
                    have HC := Lib.hid hc
                    clear hc hbt
                    first
                      | (go_region_held3 (fun w' => Below W.heap.size W w' ∧ w'.cell? ⟨wr.heap.size, 0, none⟩ = some (.string v.key) ∧ w'.cell? ⟨gT, 3, none⟩ = some (.int .u64 x.t.ts) ∧ w'.cell? ⟨gT, 4, none⟩ = some (.int .i64 x.t.dc) ∧ w'.cell? ⟨gT, 5, none⟩ = some (.int .i64 x.t.tx) ∧ w'.cell? ⟨w.heap.size + 1, 0, none⟩ = some (.string u.key) ∧ w'.cell? ⟨w.heap.size + 1, 1, none⟩ = some (.string u.val) ∧ w'.cell? ⟨w.heap.size + 1, 2, none⟩ = some (.bool u.gone) ∧ w'.cell? ⟨w.heap.size + 1, 3, none⟩ = some (.int .u64 u.ts) ∧ w'.cell? ⟨w.heap.size + 1, 4, none⟩ = some (.int .i64 u.dc) ∧ w'.cell? ⟨w.heap.size + 1, 5, none⟩ = some (.int .i64 u.tx))
                        (first | exact ⟨own_drew (own_refl _), c0, t3, t4, t5, g0, g1, g2, g3, g4, g5⟩ | (refine ⟨own_drew (own_refl _), ?_, ?_, ?_, ?_, ?_, ?_, ?_, ?_, ?_, ?_⟩ <;> (go_simp; done)) | (go_split_ands; refine ⟨below_own (by assumption) (by assumption), ?_, ?_, ?_, ?_, ?_, ?_, ?_, ?_, ?_, ?_⟩ <;> exact cell_on (by assumption) (by assumption)))
                        (first | (go_at_call 22; refine (hof_any _ _ _ _ _ _ _).mono ?_; rintro e wo ⟨rfl, hbo⟩) | (go_at_call 21; refine (cmp_any _ _ _ _ _ _ _).mono ?_; rintro e wc ⟨rfl, hbc⟩; rw [HC.out])))
                      | fail
                    rename_i hSS
                    have hb' := hSS.1
                    clear hSS
                    go_wp2
                    go_roundw
                    case rel => exact ⟨m + 1, by omega, by go_num, by rw [HST.out, HINN.out]; rfl, below_own (below_own hbel hW1) hb', hrW.on hb', by rw [HST.out, HINN.out]; exact hbW.on hb', htW.on hb'⟩
                    case measure => simp [intOf]; omega
                · have HST := Lib.hid (inner_new (b := cur) (t := x.t) HV.out hke (by rw [HINN.out]; exact hbt))
                  have HC := Lib.hid (cmp_below hbt)
                  clear hbt
                  first
                    | (go_region_held3 (fun w' => Below W.heap.size W w' ∧ w'.cell? ⟨wr.heap.size, 0, none⟩ = some (.string v.key) ∧ w'.cell? ⟨gT, 3, none⟩ = some (.int .u64 x.t.ts) ∧ w'.cell? ⟨gT, 4, none⟩ = some (.int .i64 x.t.dc) ∧ w'.cell? ⟨gT, 5, none⟩ = some (.int .i64 x.t.tx) ∧ w'.cell? ⟨w.heap.size + 1, 0, none⟩ = some (.string u.key) ∧ w'.cell? ⟨w.heap.size + 1, 1, none⟩ = some (.string u.val) ∧ w'.cell? ⟨w.heap.size + 1, 2, none⟩ = some (.bool u.gone) ∧ w'.cell? ⟨w.heap.size + 1, 3, none⟩ = some (.int .u64 u.ts) ∧ w'.cell? ⟨w.heap.size + 1, 4, none⟩ = some (.int .i64 u.dc) ∧ w'.cell? ⟨w.heap.size + 1, 5, none⟩ = some (.int .i64 u.tx))
                      (first | exact ⟨own_drew (own_refl _), c0, t3, t4, t5, g0, g1, g2, g3, g4, g5⟩ | (refine ⟨own_drew (own_refl _), ?_, ?_, ?_, ?_, ?_, ?_, ?_, ?_, ?_, ?_⟩ <;> (go_simp; done)) | (go_split_ands; refine ⟨below_own (by assumption) (by assumption), ?_, ?_, ?_, ?_, ?_, ?_, ?_, ?_, ?_, ?_⟩ <;> exact cell_on (by assumption) (by assumption)))
                      (first | (go_at_call 22; refine (hof_any _ _ _ _ _ _ _).mono ?_; rintro e wo ⟨rfl, hbo⟩) | (go_at_call 21; refine (cmp_any _ _ _ _ _ _ _).mono ?_; rintro e wc ⟨rfl, hbc⟩; rw [HC.out])))
                    | fail
                  rename_i hSS
                  have hb' := hSS.1
                  clear hSS
                  have d0 := cell_on hb' d0
                  have d1 := cell_on hb' d1
                  have d2 := cell_on hb' d2
                  have d3 := cell_on hb' d3
                  have d4 := cell_on hb' d4
                  have d5 := cell_on hb' d5
                  have g0 := cell_on hb' g0
                  have g1 := cell_on hb' g1
                  have g2 := cell_on hb' g2
                  have g3 := cell_on hb' g3
                  have g4 := cell_on hb' g4
                  have g5 := cell_on hb' g5
                  have gf' := (hbW.on hb').f
                  have hg0 := gf' 0
                  have hg1 := gf' 1
                  have hg2 := gf' 2
                  have hg3 := gf' 3
                  have hg4 := gf' 4
                  have hg5 := gf' 5
                  clear hf0 hf1 hf2 hf3 hf4 hf5
                  go_wp2
                  go_roundw
                  case rel => exact ⟨m + 1, by omega, by go_num, by rw [HST.out]; rfl, (own_set (own_set (own_set (own_set (own_set (own_set (below_own (below_own hbel hW1) hb') (Nat.le_succ _) _) (Nat.le_succ _) _) (Nat.le_succ _) _) (Nat.le_succ _) _) (Nat.le_succ _) _) (Nat.le_succ _) _), ((((((hrW.on hb').other (by simp) _).other (by simp) _).other (by simp) _).other (by simp) _).other (by simp) _).other (by simp) _, by rw [HST.out]; exact (hbW.on hb').stored _, ((((((htW.on hb').other hgne _).other hgne _).other hgne _).other hgne _).other hgne _).other hgne _⟩
                  case measure => simp [intOf]; omega
          · obtain rfl : m = x.t.wrs.length := by omega
            have HST := Lib.hid (want_in (key := key) HX.out HSE.out)
            go_wp2
            go_roundw
            case rel => exact ⟨k + 1, by omega, by go_num, by rw [HST.out, HCUR.out], hbel, hr, by rw [HST.out, HCUR.out]; exact hbest⟩
            case measure => simp [intOf]; omega
    · obtain rfl : k = n := by omega
      obtain ⟨⟨c0, c1, c2, c3, c4, c5⟩, cf, -⟩ := id hbest
      obtain ⟨⟨d0, d1, d2, d3, d4, d5⟩, df, dl⟩ := id hr
      have df0 := df 0
      have df1 := df 1
      have df2 := df 2
      have df3 := df 3
      have df4 := df 4
      have df5 := df 5
      go_wp2
      refine want_leave _ _ (hr.stored _) rfl rfl (own_set (own_set (own_set (own_set (own_set (own_set hbel (Nat.le_refl _) _) (Nat.le_refl _) _) (Nat.le_refl _) _) (Nat.le_refl _) _) (Nat.le_refl _) _) (Nat.le_refl _) _) ?_ ?_
      · unfold want; rw [List.length_map, hn]
      · unfold want; rw [List.length_map, hn]
end Go.Proofs.Ytiapolcpebilmaa
