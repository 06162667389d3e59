/-
  What is seen of a key: the answer's walk. Conditions: the history lies as the hypotheses say.
-/
import Derived.Test.YtiapolcpebilmaaWantT
import Derived.Test.YtiapolcpebilmaaCheckP
import Derived.Test.YtiapolcpebilmaaBridge
namespace Go.Proofs.Ytiapolcpebilmaa
open Go.RowKit Go.ChangeShapes Go.WideShapes Go.Deep Go.Maps
set_option linter.unusedVariables false

/-- the place of what was found. -/
def BestIs (l : List Txn) (cur : Option V) (j : Int) : Prop := (cur = none ∧ j = -1) ∨ ∃ (a : Nat) (t : Txn) (v : V), cur = some v ∧ j = (a : Int) ∧ l[a]? = some t ∧ v.ts = t.ts ∧ v.dc = t.dc ∧ v.tx = t.tx
def bestV (f : Option V) (t : Txn) (cur : Option V) : Option V := match f with | some v => some (updV t v) | none => cur
def bestK (f : Option V) (k : Nat) (j : Int) : Int := match f with | some _ => (k : Int) | none => j
theorem rwant_leave {w W : World} {tmps : Array Value} {l : List Txn} {i : Nat} {key : ByteArray} (v : V) (b : Bool) (hB : BoxV W w.heap.size v) (h6 : tmps.getD 6 undef = .pointer (some ⟨w.heap.size, 0, none⟩)) (h7 : tmps.getD 7 undef = .bool b)
    (hb : Below w.heap.size w W) (hv : v = (want l i key).getD v0) (hi : b = (want l i key).isSome) : bodyPost Try.prog Try.f16 (WantIs l i key w) .ret ⟨tmps, []⟩ W := by
  obtain ⟨⟨c0, c1, c2, c3, c4, c5⟩, -, -⟩ := hB
  have h6' : tmps[6]?.getD undef = .pointer (some ⟨w.heap.size, 0, none⟩) := by simpa using h6
  have h7' : tmps[7]?.getD undef = .bool b := by simpa using h7
  refine bodyPost_ret (v := .tuple #[v.v, .bool b]) (by simp [results, Try.results16, go_sem, h6', h7', c0, c1, c2, c3, c4, c5, V.v]) rfl ⟨by rw [hv, hi], hb⟩
set_option maxRecDepth 100000 in
set_option maxHeartbeats 4000000 in
theorem rwant_any (A : Option Addr) (n c : Nat) (l : List TI) (w : World) (hn : l.length = n) (hA : Cells w A (flatTI l)) (hm : n ≤ 9223372036854775807) (hall : ∀ x ∈ l, x.ok w) (i : Nat) (key : ByteArray) :
    Calls Try.prog 16 #[.slice A n c, .int .i64 i, .string key] w (WantIs (l.map TI.t) i key w) := by
  go_enter Try.func16, Try.ntmps16
  go_wp2
  go_loopw [8, 10] (fun bq q wr => ∃ (k : Nat) (j : Int), k ≤ n ∧ q = .int .i64 k ∧ bq = .int .i64 j ∧ BestIs (l.map TI.t) (wantTo (l.map TI.t) i key k) j ∧ Below w.heap.size w wr ∧ BoxV wr w.heap.size v0 ∧ BoxV wr (w.heap.size + 1) ((wantTo (l.map TI.t) i key k).getD v0)) (fun _ q _ => n - (intOf q).toNat)
  case atStart => exact ⟨0, -1, Nat.zero_le _, rfl, rfl, .inl ⟨rfl, rfl⟩, own_alloc (own_alloc (own_refl _) _) _, (BoxV.new _ v0 _).on (own_alloc (own_refl _) _), BoxV.new2 _ _ v0 _⟩
  case round =>
    obtain ⟨k, j, hk, rfl, rfl, hbi, hbel, hr, hbest⟩ := hrel
    by_cases hlt : k < n
    · obtain ⟨x, hx⟩ : ∃ x, l[k]? = some x := ⟨_, List.getElem?_eq_getElem (by omega)⟩
      have hx' : (l.map TI.t)[k]? = some x.t := by rw [List.getElem?_map, hx]; rfl
      obtain ⟨b, off, hAe, x0, x1, x2, x3, x4, x5, x6, x7⟩ := get_tx (hA.on hbel) hx
      subst hAe
      have hxc : ∀ W, Below w.heap.size w W → W.cell? ⟨b, off + k * 8, none⟩ = some (.int .i64 x.t.cl) ∧ W.cell? ⟨b, off + k * 8 + 1, none⟩ = some (.int .u64 x.t.sn) ∧ W.cell? ⟨b, off + k * 8 + 2, none⟩ = some (.int .i64 x.t.st) ∧ W.cell? ⟨b, off + k * 8 + 3, none⟩ = some (.int .u64 x.t.ts) ∧ W.cell? ⟨b, off + k * 8 + 4, none⟩ = some (.int .i64 x.t.dc) ∧ W.cell? ⟨b, off + k * 8 + 5, none⟩ = some (.int .i64 x.t.tx) ∧ W.cell? ⟨b, off + k * 8 + 6, none⟩ = some (.slice x.R x.t.rds.length x.rc) ∧ W.cell? ⟨b, off + k * 8 + 7, none⟩ = some (.slice x.D x.t.wrs.length x.dc) := fun W hW => by
        obtain ⟨b', off', he, h⟩ := get_tx (hA.on hW) hx
        obtain ⟨rfl, rfl⟩ : b = b' ∧ off = off' := by injection he with e; injection e with e1 e2; exact ⟨e1, e2⟩
        exact h
      have HXC := Lib.hid hxc
      have g3 : (0 : Int) ≤ (k : Int) := by omega
      have g4 : (k : Int) < (n : Int) := by omega
      obtain ⟨cur, hcur⟩ : ∃ cur, wantTo (l.map TI.t) i key k = cur := ⟨_, rfl⟩
      rw [hcur] at hbest hbi
      obtain ⟨se, hse⟩ : ∃ se, sees (l.map TI.t) (i : Int) (k : Int) = se := ⟨_, rfl⟩
      have HSE := Lib.hid hse
      have HCUR := Lib.hid hcur
      have HX := Lib.hid hx'
      have HXA := Lib.hid (hall x (List.mem_of_getElem? hx))
      have hdfit := HXA.out.dfit
      have HBI := Lib.hid hbi
      clear hcur hx' hxc hx
      cases se
      · clear hse hbi
        have hst := Lib.hid ((want_no (key := key) HX.out HSE.out).trans HCUR.out)
        go_wp2_with fail
        apply region_cut (fun W' => Below wr.heap.size wr W')
        · intro hK'
          refine region_plain (N := 23) rfl (by kernel_rfl) ?_
          refine wpAny_take (i := 0) (v := .slice (some ⟨b, off, none⟩) n c) rfl (by kernel_rfl) (by kernel_rfl) (by kernel_rfl) (fun _ _ _ h => h) (Or.inl ⟨by kernel_rfl, fun W => by go_simp⟩) ?_
          refine wpAny_take (i := 1) (v := .int .i64 i) rfl (by kernel_rfl) (by kernel_rfl) (by kernel_rfl) (fun _ _ _ h => h) (Or.inl ⟨by kernel_rfl, fun W => by go_simp⟩) ?_
          refine wpAny_take (i := 2) (v := .int .i64 k) rfl (by kernel_rfl) (by kernel_rfl) (by kernel_rfl) (fun _ _ _ h => h) (Or.inl ⟨by kernel_rfl, fun W => by go_simp⟩) ?_
          refine wpAny_ready (rs := [3]) (by kernel_rfl) (by simp) (AllReady.cons rfl (fun K hK => ?_) AllReady.nil)
          go_simp
          refine (rsees_any _ n c l _ hn ((hA.on hbel).on (own_drew (own_refl _))) i k).mono ?_
          rintro e w1 ⟨rfl, hb1⟩
          rw [HSE.out]
          have ho1 : Below wr.heap.size wr w1 := below_own (own_drew (own_refl _)) hb1
          refine hK _ _ ?_
          clear hK K
          refine wpAny_take (i := 4) (v := .bool true) rfl (by kernel_rfl) (by kernel_rfl) (by kernel_rfl) (fun _ _ _ h => h) (Or.inl ⟨by kernel_rfl, fun W => by go_simp⟩) ?_
          refine wpAny_take (i := 5) (v := .bool true) rfl (by kernel_rfl) (by kernel_rfl) (by kernel_rfl) (fun _ _ _ h => h) (Or.inl ⟨by kernel_rfl, fun W => by go_simp⟩) ?_
          refine wpAny_take (i := 6) (v := undef) rfl (by kernel_rfl) (by kernel_rfl) (by kernel_rfl) (fun _ _ _ h => h) (Or.inr ⟨by kernel_rfl, rfl⟩) ?_
          refine wpAny_take (i := 7) (v := undef) rfl (by kernel_rfl) (by kernel_rfl) (by kernel_rfl) (fun _ _ _ h => h) (Or.inr ⟨by kernel_rfl, rfl⟩) ?_
          refine wpAny_take (i := 8) (v := undef) rfl (by kernel_rfl) (by kernel_rfl) (by kernel_rfl) (fun _ _ _ h => h) (Or.inr ⟨by kernel_rfl, rfl⟩) ?_
          refine wpAny_take (i := 9) (v := undef) rfl (by kernel_rfl) (by kernel_rfl) (by kernel_rfl) (fun _ _ _ h => h) (Or.inr ⟨by kernel_rfl, rfl⟩) ?_
          refine wpAny_take (i := 10) (v := undef) rfl (by kernel_rfl) (by kernel_rfl) (by kernel_rfl) (fun _ _ _ h => h) (Or.inr ⟨by kernel_rfl, rfl⟩) ?_
          refine wpAny_take (i := 11) (v := undef) rfl (by kernel_rfl) (by kernel_rfl) (by kernel_rfl) (fun _ _ _ h => h) (Or.inr ⟨by kernel_rfl, rfl⟩) ?_
          refine wpAny_take (i := 12) (v := undef) rfl (by kernel_rfl) (by kernel_rfl) (by kernel_rfl) (fun _ _ _ h => h) (Or.inr ⟨by kernel_rfl, rfl⟩) ?_
          refine wpAny_take (i := 13) (v := undef) rfl (by kernel_rfl) (by kernel_rfl) (by kernel_rfl) (fun _ _ _ h => h) (Or.inr ⟨by kernel_rfl, rfl⟩) ?_
          refine wpAny_take (i := 14) (v := undef) rfl (by kernel_rfl) (by kernel_rfl) (by kernel_rfl) (fun _ _ _ h => h) (Or.inr ⟨by kernel_rfl, rfl⟩) ?_
          refine wpAny_take (i := 15) (v := undef) rfl (by kernel_rfl) (by kernel_rfl) (by kernel_rfl) (fun _ _ _ h => h) (Or.inr ⟨by kernel_rfl, rfl⟩) ?_
          refine wpAny_take (i := 16) (v := undef) rfl (by kernel_rfl) (by kernel_rfl) (by kernel_rfl) (fun _ _ _ h => h) (Or.inr ⟨by kernel_rfl, rfl⟩) ?_
          refine wpAny_take (i := 17) (v := undef) rfl (by kernel_rfl) (by kernel_rfl) (by kernel_rfl) (fun _ _ _ h => h) (Or.inr ⟨by kernel_rfl, rfl⟩) ?_
          refine wpAny_take (i := 18) (v := undef) rfl (by kernel_rfl) (by kernel_rfl) (by kernel_rfl) (fun _ _ _ h => h) (Or.inr ⟨by kernel_rfl, rfl⟩) ?_
          refine wpAny_take (i := 19) (v := undef) rfl (by kernel_rfl) (by kernel_rfl) (by kernel_rfl) (fun _ _ _ h => h) (Or.inr ⟨by kernel_rfl, rfl⟩) ?_
          refine wpAny_take (i := 20) (v := undef) rfl (by kernel_rfl) (by kernel_rfl) (by kernel_rfl) (fun _ _ _ h => h) (Or.inr ⟨by kernel_rfl, rfl⟩) ?_
          refine wpAny_take (i := 21) (v := undef) rfl (by kernel_rfl) (by kernel_rfl) (by kernel_rfl) (fun _ _ _ h => h) (Or.inr ⟨by kernel_rfl, rfl⟩) ?_
          refine wpAny_take (i := 22) (v := .bool true) rfl (by kernel_rfl) (by kernel_rfl) (by kernel_rfl) (fun _ _ _ h => h) (Or.inl ⟨by kernel_rfl, fun W => by go_simp⟩) ?_
          refine wpAny_done (by kernel_rfl) ?_ _
          simp only [onlyN]
          go_simp
          exact hK' _ ho1
        · intro wX hbX
          go_wp2
          go_roundw
          case rel => exact ⟨k + 1, j, by omega, by go_num, rfl, by rw [hst.out]; exact HBI.out, below_own hbel hbX, hr.on hbX, by rw [hst.out]; exact hbest.on hbX⟩
          case measure => simp [intOf]; omega

      · clear hse
        rcases hbi with ⟨rfl, rfl⟩ | ⟨a, t, v, rfl, rfl, ha, e1, e2, e3⟩
        · have HBT := Lib.hid (show better none x.t = true from rfl)
          obtain ⟨cur, hcu⟩ : ∃ cur : Option V, none = cur := ⟨_, rfl⟩
          rw [hcu] at HBI HCUR hbest HBT
          clear hcu
          go_wp2_with fail
          apply region_cut (fun W' => Below wr.heap.size wr W')
          · intro hK'
            refine region_plain (N := 23) rfl (by kernel_rfl) ?_
            refine wpAny_take (i := 0) (v := .slice (some ⟨b, off, none⟩) n c) rfl (by kernel_rfl) (by kernel_rfl) (by kernel_rfl) (fun _ _ _ h => h) (Or.inl ⟨by kernel_rfl, fun W => by go_simp⟩) ?_
            refine wpAny_take (i := 1) (v := .int .i64 i) rfl (by kernel_rfl) (by kernel_rfl) (by kernel_rfl) (fun _ _ _ h => h) (Or.inl ⟨by kernel_rfl, fun W => by go_simp⟩) ?_
            refine wpAny_take (i := 2) (v := .int .i64 k) rfl (by kernel_rfl) (by kernel_rfl) (by kernel_rfl) (fun _ _ _ h => h) (Or.inl ⟨by kernel_rfl, fun W => by go_simp⟩) ?_
            refine wpAny_ready (rs := [3]) (by kernel_rfl) (by simp) (AllReady.cons rfl (fun K hK => ?_) AllReady.nil)
            go_simp
            refine (rsees_any _ n c l _ hn ((hA.on hbel).on (own_drew (own_refl _))) i k).mono ?_
            rintro e w1 ⟨rfl, hb1⟩
            rw [HSE.out]
            have ho1 : Below wr.heap.size wr w1 := below_own (own_drew (own_refl _)) hb1
            refine hK _ _ ?_
            clear hK K
            refine wpAny_take (i := 4) (v := .bool false) rfl (by kernel_rfl) (by kernel_rfl) (by kernel_rfl) (fun _ _ _ h => h) (Or.inl ⟨by kernel_rfl, fun W => by go_simp⟩) ?_
            refine wpAny_take (i := 5) (v := .bool false) rfl (by kernel_rfl) (by kernel_rfl) (by kernel_rfl) (fun _ _ _ h => h) (Or.inl ⟨by kernel_rfl, fun W => by go_simp⟩) ?_
            refine wpAny_take (i := 6) (v := .int .i64 (-1)) rfl (by kernel_rfl) (by kernel_rfl) (by kernel_rfl) (fun _ _ _ h => h) (Or.inl ⟨by kernel_rfl, fun W => by go_simp⟩) ?_
            refine wpAny_take (i := 7) (v := .bool false) rfl (by kernel_rfl) (by kernel_rfl) (by kernel_rfl) (fun _ _ _ h => h) (Or.inl ⟨by kernel_rfl, fun W => by go_simp⟩) ?_
            refine wpAny_take (i := 8) (v := .bool false) rfl (by kernel_rfl) (by kernel_rfl) (by kernel_rfl) (fun _ _ _ h => h) (Or.inl ⟨by kernel_rfl, fun W => by go_simp⟩) ?_
            refine wpAny_take (i := 9) (v := undef) rfl (by kernel_rfl) (by kernel_rfl) (by kernel_rfl) (fun _ _ _ h => h) (Or.inr ⟨by kernel_rfl, rfl⟩) ?_
            refine wpAny_take (i := 10) (v := undef) rfl (by kernel_rfl) (by kernel_rfl) (by kernel_rfl) (fun _ _ _ h => h) (Or.inr ⟨by kernel_rfl, rfl⟩) ?_
            refine wpAny_take (i := 11) (v := undef) rfl (by kernel_rfl) (by kernel_rfl) (by kernel_rfl) (fun _ _ _ h => h) (Or.inr ⟨by kernel_rfl, rfl⟩) ?_
            refine wpAny_take (i := 12) (v := undef) rfl (by kernel_rfl) (by kernel_rfl) (by kernel_rfl) (fun _ _ _ h => h) (Or.inr ⟨by kernel_rfl, rfl⟩) ?_
            refine wpAny_take (i := 13) (v := undef) rfl (by kernel_rfl) (by kernel_rfl) (by kernel_rfl) (fun _ _ _ h => h) (Or.inr ⟨by kernel_rfl, rfl⟩) ?_
            refine wpAny_take (i := 14) (v := undef) rfl (by kernel_rfl) (by kernel_rfl) (by kernel_rfl) (fun _ _ _ h => h) (Or.inr ⟨by kernel_rfl, rfl⟩) ?_
            refine wpAny_take (i := 15) (v := undef) rfl (by kernel_rfl) (by kernel_rfl) (by kernel_rfl) (fun _ _ _ h => h) (Or.inr ⟨by kernel_rfl, rfl⟩) ?_
            refine wpAny_take (i := 16) (v := undef) rfl (by kernel_rfl) (by kernel_rfl) (by kernel_rfl) (fun _ _ _ h => h) (Or.inr ⟨by kernel_rfl, rfl⟩) ?_
            refine wpAny_take (i := 17) (v := undef) rfl (by kernel_rfl) (by kernel_rfl) (by kernel_rfl) (fun _ _ _ h => h) (Or.inr ⟨by kernel_rfl, rfl⟩) ?_
            refine wpAny_take (i := 18) (v := undef) rfl (by kernel_rfl) (by kernel_rfl) (by kernel_rfl) (fun _ _ _ h => h) (Or.inr ⟨by kernel_rfl, rfl⟩) ?_
            refine wpAny_take (i := 19) (v := undef) rfl (by kernel_rfl) (by kernel_rfl) (by kernel_rfl) (fun _ _ _ h => h) (Or.inr ⟨by kernel_rfl, rfl⟩) ?_
            refine wpAny_take (i := 20) (v := undef) rfl (by kernel_rfl) (by kernel_rfl) (by kernel_rfl) (fun _ _ _ h => h) (Or.inr ⟨by kernel_rfl, rfl⟩) ?_
            refine wpAny_take (i := 21) (v := .bool false) rfl (by kernel_rfl) (by kernel_rfl) (by kernel_rfl) (fun _ _ _ h => h) (Or.inl ⟨by kernel_rfl, fun W => by go_simp⟩) ?_
            refine wpAny_take (i := 22) (v := .bool false) rfl (by kernel_rfl) (by kernel_rfl) (by kernel_rfl) (fun _ _ _ h => h) (Or.inl ⟨by kernel_rfl, fun W => by go_simp⟩) ?_
            refine wpAny_done (by kernel_rfl) ?_ _
            simp only [onlyN]
            go_simp
            exact hK' _ ho1
          · intro wX hbX
            have hbelX := below_own hbel hbX
            clear x0 x1 x2 x3 x4 x5 x6 x7
            obtain ⟨x0, x1, x2, x3, x4, x5, x6, x7⟩ := HXC.out wX hbelX
            go_wp2
            clear x0 x1 x2 x3 x4 x5 x6 x7
            go_loopw [8, 11] (fun bq q wr => ∃ (m : Nat) (z : Int) (f : Option V), m ≤ x.t.wrs.length ∧ q = .int .i64 z ∧ z = (m : Int) - 1 ∧ (x.t.wrs.drop m).find? (fun v => v.key.toList == key.toList) = f ∧ bq = .int .i64 (bestK f k (-1)) ∧ Below w.heap.size w wr ∧ BoxV wr w.heap.size v0 ∧ BoxV wr (w.heap.size + 1) ((bestV f x.t cur).getD v0)) (fun _ q _ => (intOf q + 1).toNat)
            case atStart => exact ⟨x.t.wrs.length, _, none, Nat.le_refl _, rfl, by simp <;> omega, by simp, rfl, hbelX, hr.on hbX, hbest.on hbX⟩
            case round =>
              clear hbelX hbX hbel hr hbest
              obtain ⟨m, z, f, hmm, rfl, hz, hf, rfl, hbel, hr, hbest⟩ := hrel
              cases m with
              | zero =>
                obtain rfl : z = -1 := by omega
                clear hz
                have hff : wrOf x.t key = f := by rw [← hf]; rfl
                have hend : wantTo (l.map TI.t) i key (k + 1) = bestV f x.t cur := by
                  rw [want_in HX.out HSE.out, inner_all, HCUR.out, HBT.out, hff]; cases f <;> rfl
                have HEND := Lib.hid hend
                have HFF := Lib.hid hff
                clear hff hend hf
                cases f with
                | none =>
                  go_wp2
                  go_roundw
                  case rel => exact ⟨k + 1, (-1), by omega, by go_num, rfl, by rw [HEND.out]; exact HBI.out, hbel, hr, by rw [HEND.out]; exact hbest⟩
                  case measure => simp [intOf]; omega
                | some v =>
                  go_wp2
                  go_roundw
                  case rel => exact ⟨k + 1, (k : Int), by omega, by go_num, rfl, by rw [HEND.out]; exact .inr ⟨k, x.t, _, rfl, rfl, HX.out, rfl, rfl, rfl⟩, hbel, hr, by rw [HEND.out]; exact hbest⟩
                  case measure => simp [intOf]; omega
              | succ p =>
                obtain rfl : z = (p : Int) := by omega
                clear hz
                obtain ⟨v, hv⟩ : ∃ v, x.t.wrs[p]? = some v := ⟨_, List.getElem?_eq_getElem (by omega)⟩
                have hdr : x.t.wrs.drop p = v :: x.t.wrs.drop (p + 1) := by rw [← (List.getElem?_eq_some_iff.1 hv).2]; exact (List.getElem_cons_drop _).symm
                obtain ⟨vb, vo, hDe, hvc⟩ := (HXA.out.at'.d.on hbel).ver hv
                obtain ⟨h0, h1, h2, h3, h4, h5⟩ := hvc p v hv
                obtain ⟨x0, x1, x2, x3, x4, x5, x6, x7⟩ := HXC.out wr hbel
                rw [hDe] at x7
                have p1 : (0 : Int) ≤ (p : Int) := by omega
                have p2 : (p : Int) < (x.t.wrs.length : Int) := by omega
                have HD := Lib.hid hDe
                have HDR := Lib.hid hdr
                have HF := Lib.hid hf
                have HP := Lib.hid hmm
                clear hvc hDe hdr hf hv hmm
                cases hke : (v.key.toList == key.toList)
                · have hnf : (x.t.wrs.drop p).find? (fun v => v.key.toList == key.toList) = f := by rw [HDR.out, List.find?_cons_of_neg (by simp [hke])]; exact HF.out
                  have HNF := Lib.hid hnf
                  clear hnf
                  go_wp2
                  go_roundw
                  case rel => exact ⟨p, _, f, by have := HP.out; omega, rfl, by have := HP.out; go_num, HNF.out, rfl, hbel, hr, hbest⟩
                  case measure => have := HP.out; simp [intOf] <;> omega
                · have hnf : (x.t.wrs.drop p).find? (fun v => v.key.toList == key.toList) = some v := by rw [HDR.out, List.find?_cons_of_pos (by simp [hke])]
                  have HNF := Lib.hid hnf
                  clear hnf
                  obtain ⟨⟨c0, c1, c2, c3, c4, c5⟩, cf, -⟩ := id hbest
                  have hf0 := cf 0
                  have hf1 := cf 1
                  have hf2 := cf 2
                  have hf3 := cf 3
                  have hf4 := cf 4
                  have hf5 := cf 5
                  go_wp2_with fail
                  refine wp_from (fun W => Below w.heap.size w W ∧ BoxV W w.heap.size v0 ∧ BoxV W (w.heap.size + 1) v) ⟨(own_set (own_set (own_set (own_set (own_set (own_set (hbel) (Nat.le_succ _) _) (Nat.le_succ _) _) (Nat.le_succ _) _) (Nat.le_succ _) _) (Nat.le_succ _) _) (Nat.le_succ _) _), ((((((hr).other (by simp) _).other (by simp) _).other (by simp) _).other (by simp) _).other (by simp) _).other (by simp) _, hbest.stored _⟩ ?_
                  clear x0 x1 x2 x3 x4 x5 x6 x7 h0 h1 h2 h3 h4 h5 c0 c1 c2 c3 c4 c5 cf hf0 hf1 hf2 hf3 hf4 hf5 hbel hr hbest
                  intro W ⟨hbel, hr, hbest⟩
                  obtain ⟨⟨c0, c1, c2, c3, c4, c5⟩, cf, -⟩ := id hbest
                  obtain ⟨x0, x1, x2, x3, x4, x5, x6, x7⟩ := HXC.out W hbel
                  have hf3 := cf 3
                  have hf4 := cf 4
                  have hf5 := cf 5
                  go_region
                  go_wp2
                  go_roundw
                  case rel => exact ⟨p, _, some v, by have := HP.out; omega, rfl, by have := HP.out; go_num, HNF.out, rfl, own_drew (own_set (own_set (own_set hbel (Nat.le_succ _) _) (Nat.le_succ _) _) (Nat.le_succ _) _), (((hr.other (by simp) _).other (by simp) _).other (by simp) _).drew, (hbest.marked x.t).drew⟩
                  case measure => have := HP.out; simp [intOf] <;> omega

        · have hale := (List.getElem?_eq_some_iff.1 ha).1
          rw [List.length_map, hn] at hale
          obtain ⟨y, hy⟩ : ∃ y, l[a]? = some y := ⟨_, List.getElem?_eq_getElem (by omega)⟩
          obtain rfl : y.t = t := by rw [List.getElem?_map, hy] at ha; injection ha
          obtain ⟨b', off', hbo, y0, y1, y2, y3, y4, y5, y6, y7⟩ := get_tx (hA.on hbel) hy
          obtain ⟨rfl, rfl⟩ : b = b' ∧ off = off' := by injection hbo with e; injection e with e1 e2; exact ⟨e1, e2⟩
          have a1 : (0 : Int) ≤ (a : Int) := by omega
          have a2 : (a : Int) < (n : Int) := by omega
          clear hbo ha hy
          obtain ⟨bt, hbt⟩ : ∃ bt, better (some v) x.t = bt := ⟨_, rfl⟩
          have HLE := Lib.hid (show mlt y.t.ts y.t.dc y.t.tx x.t.ts x.t.dc x.t.tx = bt by rw [← e1, ← e2, ← e3]; exact hbt)
          have HBT := Lib.hid hbt
          obtain ⟨cur, hcu⟩ : ∃ cur : Option V, some v = cur := ⟨_, rfl⟩
          rw [hcu] at HBI HCUR hbest HBT
          clear hcu hbt e1 e2 e3
          cases bt
          · have hst := Lib.hid (show wantTo (l.map TI.t) i key (k + 1) = cur by rw [want_in HX.out HSE.out, inner_all, HCUR.out, HBT.out]; rfl)
            go_wp2_with fail
            apply region_cut (fun W' => Below wr.heap.size wr W')
            · intro hK'
              refine region_plain (N := 23) rfl (by kernel_rfl) ?_
              refine wpAny_take (i := 0) (v := .slice (some ⟨b, off, none⟩) n c) rfl (by kernel_rfl) (by kernel_rfl) (by kernel_rfl) (fun _ _ _ h => h) (Or.inl ⟨by kernel_rfl, fun W => by go_simp⟩) ?_
              refine wpAny_take (i := 1) (v := .int .i64 i) rfl (by kernel_rfl) (by kernel_rfl) (by kernel_rfl) (fun _ _ _ h => h) (Or.inl ⟨by kernel_rfl, fun W => by go_simp⟩) ?_
              refine wpAny_take (i := 2) (v := .int .i64 k) rfl (by kernel_rfl) (by kernel_rfl) (by kernel_rfl) (fun _ _ _ h => h) (Or.inl ⟨by kernel_rfl, fun W => by go_simp⟩) ?_
              refine wpAny_ready (rs := [3]) (by kernel_rfl) (by simp) (AllReady.cons rfl (fun K hK => ?_) AllReady.nil)
              go_simp
              refine (rsees_any _ n c l _ hn ((hA.on hbel).on (own_drew (own_refl _))) i k).mono ?_
              rintro e w1 ⟨rfl, hb1⟩
              rw [HSE.out]
              have ho1 : Below wr.heap.size wr w1 := below_own (own_drew (own_refl _)) hb1
              have x0_1 := cell_on ho1 x0
              have x1_1 := cell_on ho1 x1
              have x2_1 := cell_on ho1 x2
              have x3_1 := cell_on ho1 x3
              have x4_1 := cell_on ho1 x4
              have x5_1 := cell_on ho1 x5
              have x6_1 := cell_on ho1 x6
              have x7_1 := cell_on ho1 x7
              have y0_1 := cell_on ho1 y0
              have y1_1 := cell_on ho1 y1
              have y2_1 := cell_on ho1 y2
              have y3_1 := cell_on ho1 y3
              have y4_1 := cell_on ho1 y4
              have y5_1 := cell_on ho1 y5
              have y6_1 := cell_on ho1 y6
              have y7_1 := cell_on ho1 y7
              refine hK _ _ ?_
              clear hK K
              refine wpAny_take (i := 4) (v := .bool false) rfl (by kernel_rfl) (by kernel_rfl) (by kernel_rfl) (fun _ _ _ h => h) (Or.inl ⟨by kernel_rfl, fun W => by go_simp⟩) ?_
              refine wpAny_take (i := 5) (v := .bool false) rfl (by kernel_rfl) (by kernel_rfl) (by kernel_rfl) (fun _ _ _ h => h) (Or.inl ⟨by kernel_rfl, fun W => by go_simp⟩) ?_
              refine wpAny_take (i := 6) (v := .int .i64 a) rfl (by kernel_rfl) (by kernel_rfl) (by kernel_rfl) (fun _ _ _ h => h) (Or.inl ⟨by kernel_rfl, fun W => by go_simp⟩) ?_
              refine wpAny_take (i := 7) (v := .bool true) rfl (by kernel_rfl) (by kernel_rfl) (by kernel_rfl) (fun _ _ _ h => h) (Or.inl ⟨by kernel_rfl, fun W => by go_simp⟩) ?_
              refine wpAny_take (i := 8) (v := .bool true) rfl (by kernel_rfl) (by kernel_rfl) (by kernel_rfl) (fun _ _ _ h => h) (Or.inl ⟨by kernel_rfl, fun W => by go_simp⟩) ?_
              refine wpAny_take (i := 9) (v := .slice (some ⟨b, off, none⟩) n c) rfl (by kernel_rfl) (by kernel_rfl) (by kernel_rfl) (fun _ _ _ h => h) (Or.inl ⟨by kernel_rfl, fun W => by go_simp⟩) ?_
              refine wpAny_take (i := 10) (v := .int .i64 a) rfl (by kernel_rfl) (by kernel_rfl) (by kernel_rfl) (fun _ _ _ h => h) (Or.inl ⟨by kernel_rfl, fun W => by go_simp⟩) ?_
              refine wpAny_take (i := 11) (v := .pointer (some ⟨b, off + a * 8, none⟩)) rfl (by kernel_rfl) (by kernel_rfl) (by kernel_rfl) (fun _ _ _ h => h) (Or.inl ⟨by kernel_rfl, fun W => by go_simp⟩) ?_
              refine wpAny_take (i := 12) (v := .pointer (some ⟨b, off + a * 8 + 3, none⟩)) rfl (by kernel_rfl) (by kernel_rfl) (by kernel_rfl) (fun _ _ _ h => h) (Or.inl ⟨by kernel_rfl, fun W => by go_simp⟩) ?_
              refine wpAny_take (i := 14) (v := .slice (some ⟨b, off, none⟩) n c) rfl (by kernel_rfl) (by kernel_rfl) (by kernel_rfl) (fun _ _ _ h => h) (Or.inl ⟨by kernel_rfl, fun W => by go_simp⟩) ?_
              refine wpAny_take (i := 15) (v := .int .i64 k) rfl (by kernel_rfl) (by kernel_rfl) (by kernel_rfl) (fun _ _ _ h => h) (Or.inl ⟨by kernel_rfl, fun W => by go_simp⟩) ?_
              refine wpAny_take (i := 16) (v := .pointer (some ⟨b, off + k * 8, none⟩)) rfl (by kernel_rfl) (by kernel_rfl) (by kernel_rfl) (fun _ _ _ h => h) (Or.inl ⟨by kernel_rfl, fun W => by go_simp⟩) ?_
              refine wpAny_take (i := 17) (v := .pointer (some ⟨b, off + k * 8 + 3, none⟩)) rfl (by kernel_rfl) (by kernel_rfl) (by kernel_rfl) (fun _ _ _ h => h) (Or.inl ⟨by kernel_rfl, fun W => by go_simp⟩) ?_
              apply cut2
              · intro hS
                refine wpAny_ready (rs := [13, 18]) (by kernel_rfl) (by simp) (AllReady.cons rfl (fun K hK => ?_) (AllReady.cons rfl (fun K hK => ?_) AllReady.nil))
                · go_simp
                  refine hK _ _ ?_
                  clear hK K
                  refine wpAny_ready (rs := [18]) (by kernel_rfl) (by simp) (AllReady.cons rfl (fun K hK => ?_) AllReady.nil)
                  go_simp
                  refine hK _ _ ?_
                  clear hK K
                  exact hS
                · go_simp
                  refine hK _ _ ?_
                  clear hK K
                  refine wpAny_ready (rs := [13]) (by kernel_rfl) (by simp) (AllReady.cons rfl (fun K hK => ?_) AllReady.nil)
                  go_simp
                  refine hK _ _ ?_
                  clear hK K
                  exact wpAny_swap hS (by kernel_rfl)
              · refine wpAny_ready (rs := [19]) (by kernel_rfl) (by simp) (AllReady.cons rfl (fun K hK => ?_) AllReady.nil)
                go_simp
                refine (less_any _ _ _ _ _ _ _).mono ?_
                rintro e w2 ⟨rfl, hb2⟩
                rw [HLE.out]
                have ho2 : Below wr.heap.size wr w2 := below_own ho1 hb2
                refine hK _ _ ?_
                clear hK K
                refine wpAny_take (i := 20) (v := .bool true) rfl (by kernel_rfl) (by kernel_rfl) (by kernel_rfl) (fun _ _ _ h => h) (Or.inl ⟨by kernel_rfl, fun W => by go_simp⟩) ?_
                refine wpAny_take (i := 21) (v := .bool true) rfl (by kernel_rfl) (by kernel_rfl) (by kernel_rfl) (fun _ _ _ h => h) (Or.inl ⟨by kernel_rfl, fun W => by go_simp⟩) ?_
                refine wpAny_take (i := 22) (v := .bool true) rfl (by kernel_rfl) (by kernel_rfl) (by kernel_rfl) (fun _ _ _ h => h) (Or.inl ⟨by kernel_rfl, fun W => by go_simp⟩) ?_
                refine wpAny_done (by kernel_rfl) ?_ _
                simp only [onlyN]
                go_simp
                exact hK' _ ho2
            · intro wX hbX
              go_wp2
              go_roundw
              case rel => exact ⟨k + 1, (a : Int), by omega, by go_num, rfl, by rw [hst.out]; exact HBI.out, below_own hbel hbX, hr.on hbX, by rw [hst.out]; exact hbest.on hbX⟩
              case measure => simp [intOf]; omega

          · skip
            go_wp2_with fail
            apply region_cut (fun W' => Below wr.heap.size wr W')
            · intro hK'
              refine region_plain (N := 23) rfl (by kernel_rfl) ?_
              refine wpAny_take (i := 0) (v := .slice (some ⟨b, off, none⟩) n c) rfl (by kernel_rfl) (by kernel_rfl) (by kernel_rfl) (fun _ _ _ h => h) (Or.inl ⟨by kernel_rfl, fun W => by go_simp⟩) ?_
              refine wpAny_take (i := 1) (v := .int .i64 i) rfl (by kernel_rfl) (by kernel_rfl) (by kernel_rfl) (fun _ _ _ h => h) (Or.inl ⟨by kernel_rfl, fun W => by go_simp⟩) ?_
              refine wpAny_take (i := 2) (v := .int .i64 k) rfl (by kernel_rfl) (by kernel_rfl) (by kernel_rfl) (fun _ _ _ h => h) (Or.inl ⟨by kernel_rfl, fun W => by go_simp⟩) ?_
              refine wpAny_ready (rs := [3]) (by kernel_rfl) (by simp) (AllReady.cons rfl (fun K hK => ?_) AllReady.nil)
              go_simp
              refine (rsees_any _ n c l _ hn ((hA.on hbel).on (own_drew (own_refl _))) i k).mono ?_
              rintro e w1 ⟨rfl, hb1⟩
              rw [HSE.out]
              have ho1 : Below wr.heap.size wr w1 := below_own (own_drew (own_refl _)) hb1
              have x0_1 := cell_on ho1 x0
              have x1_1 := cell_on ho1 x1
              have x2_1 := cell_on ho1 x2
              have x3_1 := cell_on ho1 x3
              have x4_1 := cell_on ho1 x4
              have x5_1 := cell_on ho1 x5
              have x6_1 := cell_on ho1 x6
              have x7_1 := cell_on ho1 x7
              have y0_1 := cell_on ho1 y0
              have y1_1 := cell_on ho1 y1
              have y2_1 := cell_on ho1 y2
              have y3_1 := cell_on ho1 y3
              have y4_1 := cell_on ho1 y4
              have y5_1 := cell_on ho1 y5
              have y6_1 := cell_on ho1 y6
              have y7_1 := cell_on ho1 y7
              refine hK _ _ ?_
              clear hK K
              refine wpAny_take (i := 4) (v := .bool false) rfl (by kernel_rfl) (by kernel_rfl) (by kernel_rfl) (fun _ _ _ h => h) (Or.inl ⟨by kernel_rfl, fun W => by go_simp⟩) ?_
              refine wpAny_take (i := 5) (v := .bool false) rfl (by kernel_rfl) (by kernel_rfl) (by kernel_rfl) (fun _ _ _ h => h) (Or.inl ⟨by kernel_rfl, fun W => by go_simp⟩) ?_
              refine wpAny_take (i := 6) (v := .int .i64 a) rfl (by kernel_rfl) (by kernel_rfl) (by kernel_rfl) (fun _ _ _ h => h) (Or.inl ⟨by kernel_rfl, fun W => by go_simp⟩) ?_
              refine wpAny_take (i := 7) (v := .bool true) rfl (by kernel_rfl) (by kernel_rfl) (by kernel_rfl) (fun _ _ _ h => h) (Or.inl ⟨by kernel_rfl, fun W => by go_simp⟩) ?_
              refine wpAny_take (i := 8) (v := .bool true) rfl (by kernel_rfl) (by kernel_rfl) (by kernel_rfl) (fun _ _ _ h => h) (Or.inl ⟨by kernel_rfl, fun W => by go_simp⟩) ?_
              refine wpAny_take (i := 9) (v := .slice (some ⟨b, off, none⟩) n c) rfl (by kernel_rfl) (by kernel_rfl) (by kernel_rfl) (fun _ _ _ h => h) (Or.inl ⟨by kernel_rfl, fun W => by go_simp⟩) ?_
              refine wpAny_take (i := 10) (v := .int .i64 a) rfl (by kernel_rfl) (by kernel_rfl) (by kernel_rfl) (fun _ _ _ h => h) (Or.inl ⟨by kernel_rfl, fun W => by go_simp⟩) ?_
              refine wpAny_take (i := 11) (v := .pointer (some ⟨b, off + a * 8, none⟩)) rfl (by kernel_rfl) (by kernel_rfl) (by kernel_rfl) (fun _ _ _ h => h) (Or.inl ⟨by kernel_rfl, fun W => by go_simp⟩) ?_
              refine wpAny_take (i := 12) (v := .pointer (some ⟨b, off + a * 8 + 3, none⟩)) rfl (by kernel_rfl) (by kernel_rfl) (by kernel_rfl) (fun _ _ _ h => h) (Or.inl ⟨by kernel_rfl, fun W => by go_simp⟩) ?_
              refine wpAny_take (i := 14) (v := .slice (some ⟨b, off, none⟩) n c) rfl (by kernel_rfl) (by kernel_rfl) (by kernel_rfl) (fun _ _ _ h => h) (Or.inl ⟨by kernel_rfl, fun W => by go_simp⟩) ?_
              refine wpAny_take (i := 15) (v := .int .i64 k) rfl (by kernel_rfl) (by kernel_rfl) (by kernel_rfl) (fun _ _ _ h => h) (Or.inl ⟨by kernel_rfl, fun W => by go_simp⟩) ?_
              refine wpAny_take (i := 16) (v := .pointer (some ⟨b, off + k * 8, none⟩)) rfl (by kernel_rfl) (by kernel_rfl) (by kernel_rfl) (fun _ _ _ h => h) (Or.inl ⟨by kernel_rfl, fun W => by go_simp⟩) ?_
              refine wpAny_take (i := 17) (v := .pointer (some ⟨b, off + k * 8 + 3, none⟩)) rfl (by kernel_rfl) (by kernel_rfl) (by kernel_rfl) (fun _ _ _ h => h) (Or.inl ⟨by kernel_rfl, fun W => by go_simp⟩) ?_
              apply cut2
              · intro hS
                refine wpAny_ready (rs := [13, 18]) (by kernel_rfl) (by simp) (AllReady.cons rfl (fun K hK => ?_) (AllReady.cons rfl (fun K hK => ?_) AllReady.nil))
                · go_simp
                  refine hK _ _ ?_
                  clear hK K
                  refine wpAny_ready (rs := [18]) (by kernel_rfl) (by simp) (AllReady.cons rfl (fun K hK => ?_) AllReady.nil)
                  go_simp
                  refine hK _ _ ?_
                  clear hK K
                  exact hS
                · go_simp
                  refine hK _ _ ?_
                  clear hK K
                  refine wpAny_ready (rs := [13]) (by kernel_rfl) (by simp) (AllReady.cons rfl (fun K hK => ?_) AllReady.nil)
                  go_simp
                  refine hK _ _ ?_
                  clear hK K
                  exact wpAny_swap hS (by kernel_rfl)
              · refine wpAny_ready (rs := [19]) (by kernel_rfl) (by simp) (AllReady.cons rfl (fun K hK => ?_) AllReady.nil)
                go_simp
                refine (less_any _ _ _ _ _ _ _).mono ?_
                rintro e w2 ⟨rfl, hb2⟩
                rw [HLE.out]
                have ho2 : Below wr.heap.size wr w2 := below_own ho1 hb2
                refine hK _ _ ?_
                clear hK K
                refine wpAny_take (i := 20) (v := .bool false) rfl (by kernel_rfl) (by kernel_rfl) (by kernel_rfl) (fun _ _ _ h => h) (Or.inl ⟨by kernel_rfl, fun W => by go_simp⟩) ?_
                refine wpAny_take (i := 21) (v := .bool false) rfl (by kernel_rfl) (by kernel_rfl) (by kernel_rfl) (fun _ _ _ h => h) (Or.inl ⟨by kernel_rfl, fun W => by go_simp⟩) ?_
                refine wpAny_take (i := 22) (v := .bool false) rfl (by kernel_rfl) (by kernel_rfl) (by kernel_rfl) (fun _ _ _ h => h) (Or.inl ⟨by kernel_rfl, fun W => by go_simp⟩) ?_
                refine wpAny_done (by kernel_rfl) ?_ _
                simp only [onlyN]
                go_simp
                exact hK' _ ho2
            · intro wX hbX
              have hbelX := below_own hbel hbX
              clear x0 x1 x2 x3 x4 x5 x6 x7 y0 y1 y2 y3 y4 y5 y6 y7
              obtain ⟨x0, x1, x2, x3, x4, x5, x6, x7⟩ := HXC.out wX hbelX
              go_wp2
              clear x0 x1 x2 x3 x4 x5 x6 x7
              go_loopw [8, 11] (fun bq q wr => ∃ (m : Nat) (z : Int) (f : Option V), m ≤ x.t.wrs.length ∧ q = .int .i64 z ∧ z = (m : Int) - 1 ∧ (x.t.wrs.drop m).find? (fun v => v.key.toList == key.toList) = f ∧ bq = .int .i64 (bestK f k (a : Int)) ∧ Below w.heap.size w wr ∧ BoxV wr w.heap.size v0 ∧ BoxV wr (w.heap.size + 1) ((bestV f x.t cur).getD v0)) (fun _ q _ => (intOf q + 1).toNat)
              case atStart => exact ⟨x.t.wrs.length, _, none, Nat.le_refl _, rfl, by simp <;> omega, by simp, rfl, hbelX, hr.on hbX, hbest.on hbX⟩
              case round =>
                clear hbelX hbX hbel hr hbest
                obtain ⟨m, z, f, hmm, rfl, hz, hf, rfl, hbel, hr, hbest⟩ := hrel
                cases m with
                | zero =>
                  obtain rfl : z = -1 := by omega
                  clear hz
                  have hff : wrOf x.t key = f := by rw [← hf]; rfl
                  have hend : wantTo (l.map TI.t) i key (k + 1) = bestV f x.t cur := by
                    rw [want_in HX.out HSE.out, inner_all, HCUR.out, HBT.out, hff]; cases f <;> rfl
                  have HEND := Lib.hid hend
                  have HFF := Lib.hid hff
                  clear hff hend hf
                  cases f with
                  | none =>
                    go_wp2
                    go_roundw
                    case rel => exact ⟨k + 1, (a : Int), by omega, by go_num, rfl, by rw [HEND.out]; exact HBI.out, hbel, hr, by rw [HEND.out]; exact hbest⟩
                    case measure => simp [intOf]; omega
                  | some v =>
                    go_wp2
                    go_roundw
                    case rel => exact ⟨k + 1, (k : Int), by omega, by go_num, rfl, by rw [HEND.out]; exact .inr ⟨k, x.t, _, rfl, rfl, HX.out, rfl, rfl, rfl⟩, hbel, hr, by rw [HEND.out]; exact hbest⟩
                    case measure => simp [intOf]; omega
                | succ p =>
                  obtain rfl : z = (p : Int) := by omega
                  clear hz
                  obtain ⟨v, hv⟩ : ∃ v, x.t.wrs[p]? = some v := ⟨_, List.getElem?_eq_getElem (by omega)⟩
                  have hdr : x.t.wrs.drop p = v :: x.t.wrs.drop (p + 1) := by rw [← (List.getElem?_eq_some_iff.1 hv).2]; exact (List.getElem_cons_drop _).symm
                  obtain ⟨vb, vo, hDe, hvc⟩ := (HXA.out.at'.d.on hbel).ver hv
                  obtain ⟨h0, h1, h2, h3, h4, h5⟩ := hvc p v hv
                  obtain ⟨x0, x1, x2, x3, x4, x5, x6, x7⟩ := HXC.out wr hbel
                  rw [hDe] at x7
                  have p1 : (0 : Int) ≤ (p : Int) := by omega
                  have p2 : (p : Int) < (x.t.wrs.length : Int) := by omega
                  have HD := Lib.hid hDe
                  have HDR := Lib.hid hdr
                  have HF := Lib.hid hf
                  have HP := Lib.hid hmm
                  clear hvc hDe hdr hf hv hmm
                  cases hke : (v.key.toList == key.toList)
                  · have hnf : (x.t.wrs.drop p).find? (fun v => v.key.toList == key.toList) = f := by rw [HDR.out, List.find?_cons_of_neg (by simp [hke])]; exact HF.out
                    have HNF := Lib.hid hnf
                    clear hnf
                    go_wp2
                    go_roundw
                    case rel => exact ⟨p, _, f, by have := HP.out; omega, rfl, by have := HP.out; go_num, HNF.out, rfl, hbel, hr, hbest⟩
                    case measure => have := HP.out; simp [intOf] <;> omega
                  · have hnf : (x.t.wrs.drop p).find? (fun v => v.key.toList == key.toList) = some v := by rw [HDR.out, List.find?_cons_of_pos (by simp [hke])]
                    have HNF := Lib.hid hnf
                    clear hnf
                    obtain ⟨⟨c0, c1, c2, c3, c4, c5⟩, cf, -⟩ := id hbest
                    have hf0 := cf 0
                    have hf1 := cf 1
                    have hf2 := cf 2
                    have hf3 := cf 3
                    have hf4 := cf 4
                    have hf5 := cf 5
                    go_wp2_with fail
                    refine wp_from (fun W => Below w.heap.size w W ∧ BoxV W w.heap.size v0 ∧ BoxV W (w.heap.size + 1) v) ⟨(own_set (own_set (own_set (own_set (own_set (own_set (hbel) (Nat.le_succ _) _) (Nat.le_succ _) _) (Nat.le_succ _) _) (Nat.le_succ _) _) (Nat.le_succ _) _) (Nat.le_succ _) _), ((((((hr).other (by simp) _).other (by simp) _).other (by simp) _).other (by simp) _).other (by simp) _).other (by simp) _, hbest.stored _⟩ ?_
                    clear x0 x1 x2 x3 x4 x5 x6 x7 h0 h1 h2 h3 h4 h5 c0 c1 c2 c3 c4 c5 cf hf0 hf1 hf2 hf3 hf4 hf5 hbel hr hbest
                    intro W ⟨hbel, hr, hbest⟩
                    obtain ⟨⟨c0, c1, c2, c3, c4, c5⟩, cf, -⟩ := id hbest
                    obtain ⟨x0, x1, x2, x3, x4, x5, x6, x7⟩ := HXC.out W hbel
                    have hf3 := cf 3
                    have hf4 := cf 4
                    have hf5 := cf 5
                    go_region
                    go_wp2
                    go_roundw
                    case rel => exact ⟨p, _, some v, by have := HP.out; omega, rfl, by have := HP.out; go_num, HNF.out, rfl, own_drew (own_set (own_set (own_set hbel (Nat.le_succ _) _) (Nat.le_succ _) _) (Nat.le_succ _) _), (((hr.other (by simp) _).other (by simp) _).other (by simp) _).drew, (hbest.marked x.t).drew⟩
                    case measure => have := HP.out; simp [intOf] <;> omega

    · obtain rfl : k = n := by omega
      obtain ⟨⟨c0, c1, c2, c3, c4, c5⟩, cf, -⟩ := id hbest
      obtain ⟨⟨d0, d1, d2, d3, d4, d5⟩, df, dl⟩ := id hr
      have df0 := df 0
      have df1 := df 1
      have df2 := df 2
      have df3 := df 3
      have df4 := df 4
      have df5 := df 5
      have hge : decide ((0 : Int) ≤ j) = (wantTo (l.map TI.t) i key k).isSome := by
        rcases hbi with ⟨h1, rfl⟩ | ⟨a, t, v, h1, rfl, -, -, -, -⟩
        · rw [h1]; rfl
        · rw [h1]; simp
      have HGE := Lib.hid hge
      clear hge hbi
      go_wp2
      refine rwant_leave _ _ (hr.stored _) rfl rfl (own_set (own_set (own_set (own_set (own_set (own_set hbel (Nat.le_refl _) _) (Nat.le_refl _) _) (Nat.le_refl _) _) (Nat.le_refl _) _) (Nat.le_refl _) _) (Nat.le_refl _) _) ?_ ?_
      · unfold want; rw [List.length_map, hn]
      · unfold want; rw [List.length_map, hn]; exact HGE.out
end Go.Proofs.Ytiapolcpebilmaa
