/-
  A range over a function whose rounds know their place. Conditions: the log lies as the hypotheses say.
-/
import Derived.Test.YtggbdjdfejcpjaaOrdF
namespace Go.Proofs.Ytggbdjdfejcpjaa
open Go.RowKit Go.Maps Go.Shelf
attribute [local go_sem] Oper.semAt_some
set_option linter.unusedVariables false

/-- what an iterator does: it hands values on, one at a time, each while Ok of it. -/
def Hands2 {α : Type} (F : Fence) (n : Nat) (P : Program) (g : Nat) (lb : Array Value) (encs : α → Array Value) (Ok : List α → α → World → Prop) (Kp : World → World → Prop) (S Sp : List α → Prop) (N : Nat) (w : World) : Prop :=
  ∀ (l : Nat) (J Jx : List α → World → Prop) (W : World), Below w.heap.size w W → (∀ s X Y, J s X → Below X.heap.size X Y → J s Y) → (∀ s X Y, Jx s X → Below X.heap.size X Y → Jx s Y) →
    (∀ pre x W1, J pre W1 → Ok pre x W1 → pre.length < N → YieldAt F (n - 1) P l (encs x) W1 fun e W' =>
      (e = .returned (.bool true) ∧ J (pre ++ [x]) W' ∧ Kp W1 W') ∨ (e = .returned (.bool false) ∧ Jx (pre ++ [x]) W')) →
    J [] W →
    CallsIn F n P g (#[.func (.yield l) #[] #[]] ++ lb) W fun e W' => (∃ v, e = .returned v) ∧ ((∃ xs, S xs ∧ J xs W') ∨ (∃ pre, Sp pre ∧ Jx pre W'))
theorem range_law2 {F : Fence} {n : Nat} {P : Program} {α : Type} {g : Operand} {ps : Array Tmp} {assign body : Code} {Q : Exit → Act → World → Prop} {a : Act} {w : World}
    (hro : F.round = none) (h1 : 1 ≤ n) {gf : Nat} {lb : Array Value} (hg : a.eval g = .func (.func gf) #[] lb) (hFg : F.fn gf) (eg : ∀ args w, (callFunc gf args).run P w = .ok (.enter gf args) w)
    {encs : α → Array Value} {Ok : List α → α → World → Prop} {Kp : World → World → Prop} {S Sp : List α → Prop} {N : Nat} {w0 : World} (hseq : Hands2 F (n - 1) P gf lb encs Ok Kp S Sp N w0)
    (hb0 : Below w0.heap.size w0 w) (hKt : ∀ {X Y Z : World}, Kp X Y → Kp Y Z → Kp X Z)
    (hKb : ∀ (W : World) (l : Nat) (o o' : Obj), w.heap.size ≤ l → W.heap[l]? = some o → o.isCells = false → Kp W (W.putObj l o')) (hps : ∀ x, (encs x).size = ps.size)
    (I : List α → World → Prop) (Ix : Code → List α → World → Prop) (Ax : (List α × α × Act) → World → Prop) (hI : Sturdy w.heap.size I) (hIx : ∀ c, Sturdy w.heap.size (Ix c)) (hAx : Sturdy w.heap.size Ax) (h0 : I [] w)
    (hassign : ∀ (l : Nat) (pre : List α) (x : α) (W : World) (K : Act → World → Prop), I pre W → Ok pre x W → (∀ a' W', KeepsOthers W W' → Kp W W' → Ax (pre, x, a') W' → K a' W') →
      assign.wpIn (F.inRound l) (n - 1 - 1) P (Exit.then K (fun _ _ _ => False)) { tmps := (ps.zip (encs x)).foldl (fun t (p, v) => t.setIfInBounds p v) a.tmps, defers := [] } W)
    (hbody : ∀ (l : Nat) (pre : List α) (x : α) (a' : Act) (W : World), Ax (pre, x, a') W → pre.length < N → body.wpIn (F.inRound l) (n - 1 - 1) P (ownPostK Kp I Ix (pre ++ [x]) W) a' W)
    (hdone : ∀ (D : Nat) (xs : List α) (W : World), w.heap.size ≤ D → S xs → I xs W → W.heap[D]? = some (.deferred (some [])) → Q .normal { a with defers := { target := .collected D, args := #[] } :: a.defers } W)
    (hstop : ∀ (D : Nat) (c : Code) (pre : List α) (W : World), w.heap.size ≤ D → Sp pre → Ix c pre W → W.heap[D]? = some (.deferred (some [])) → c.wpIn F n P Q { a with defers := { target := .collected D, args := #[] } :: a.defers } W) :
    (Code.rangeFunc g ps assign body).wpIn F n P Q a w := by
  refine wpIn_rangeFunc fun fn hfn => ?_
  rw [hro]
  obtain ⟨D, hD⟩ : ∃ D, w.heap.size = D := ⟨_, rfl⟩
  obtain ⟨rec, hrec⟩ : ∃ rec : LoopState → Option Code → Loop, rec = fun st pe => { state := st, pending := pe, fn, tmps := a.tmps, params := ps, assign, body, defers := D } := ⟨_, rfl⟩
  obtain ⟨V, hV⟩ : ∃ V, (w.alloc (.deferred (some []))).alloc (.loop (rec .ready none)) = V := ⟨_, rfl⟩
  have hs1 : (w.alloc (.deferred (some []))).heap.size = D + 1 := by simp [hD]
  have bV : Bk V D (rec .ready none) := by
    subst hV
    refine ⟨by rw [← hs1]; exact World.alloc_heap_new _ _, ?_⟩
    rw [Below.heap_alloc _ _ _ (by rw [hs1]; omega), ← hD]
    exact World.alloc_heap_new w _
  have hwV : Below w.heap.size w V := hV ▸ own_alloc (own_alloc (own_refl w) _) _
  have hrp : (rec .ready none).params = ps := by rw [hrec]
  refine ⟨D + 1, [{ target := .collected D, args := #[] }], V, { target := .fn (.func gf) lb, args := #[.func (.yield (D + 1)) #[] #[]] }, V, gf, #[.func (.yield (D + 1)) #[] #[]] ++ lb, V, ?_, ?_, fun f' hf' => ?_, ?_, fun _ => h1, ?_⟩
  · rw [← hV, hrec, ← hD]; exact run_enterLoop_outer _ _ _ _ _
  · simp only [resolve, hg]
    simp [go_sem]
  · simp [Target.leads] at hf'; subst hf'; exact hFg
  · simp [invoke, go_sem, eg]
  rw [hD] at hI hIx hAx hKb
  have fin : ∀ (jump : Option Code) (W : World), Bk W D (rec .busy none) → (Instr.endRound (D + 1) jump).run P W = .ok (.bool jump.isNone) (W.putObj (D + 1) (.loop (rec (if jump.isNone then .ready else .done) jump))) := fun jump W h => by
    have := run_endRound (P := P) jump h.l
    rw [hrec] at this ⊢
    exact this
  have last : ∀ (st : LoopState) (pe : Option Code) (W : World), Bk W D (rec st pe) → st ≠ .busy → (Instr.endLoop (D + 1)).run P W = .ok pe (W.putObj (D + 1) (.loop (rec .exhausted pe))) := fun st pe W h hne => by
    have := run_endLoop (P := P) h.l (by rw [hrec]; exact hne)
    rw [hrec] at this ⊢
    exact this
  refine (hseq (D + 1) (fun pre W => I pre W ∧ Bk W D (rec .ready none)) (fun pre W => ∃ c, Ix c pre W ∧ Bk W D (rec .done (some c))) V (below_own hb0 hwV)
    (fun s X Y hs hb => ⟨hI.new hs.1 hb, hs.2.turn (Turns.of_below (S := none') hb) id id⟩)
    (fun s X Y hs hb => by obtain ⟨c, hc, hk⟩ := hs; exact ⟨c, (hIx c).new hc hb, hk.turn (Turns.of_below (S := none') hb) id id⟩) ?_ ⟨hI.new h0 hwV, bV⟩).mono ?_
  · rintro pre x W ⟨hi, hbk⟩ hok hlen
    have hy := run_yield (P := P) (args := encs x) hbk.l (by rw [hrp]; exact hps x)
    rw [hrec] at hy
    refine ⟨fn, _, assign, body, hy, roundIn_of_wpIn hfn (hassign _ pre x W _ hi hok fun a' W' hk hkp hax => ?_)⟩
    have hbk' := hbk.keeps hk
    have hbusy := run_beginRound (P := P) hbk'.l (by rw [hrec])
    rw [show ({ rec .ready none with state := .busy } : Loop) = rec .busy none from by rw [hrec]] at hbusy
    refine ⟨_, hbusy, wpIn_mono (hbody _ pre x a' _ (hAx.put _ hax (by omega) hbk'.l rfl) hlen) ?_⟩
    have kb : Kp W (W'.putObj (D + 1) (.loop (rec .busy none))) := hKt hkp (hKb _ _ _ _ (by omega) hbk'.l rfl)
    have bb := hbk'.put (rec .busy none)
    have leave : ∀ (c : Code) (W3 : World), KeepsOthers (W'.putObj (D + 1) (.loop (rec .busy none))) W3 → Ix c (pre ++ [x]) W3 →
        ∃ v w', (Instr.endRound (D + 1) (some c)).run P W3 = .ok v w' ∧ ((Ending.returned v = .returned (.bool true) ∧ (I (pre ++ [x]) w' ∧ Bk w' D (rec .ready none)) ∧ Kp W w') ∨ (Ending.returned v = .returned (.bool false) ∧ ∃ c, Ix c (pre ++ [x]) w' ∧ Bk w' D (rec .done (some c)))) := fun c W3 hk3 hi3 =>
      ⟨_, _, fin (some c) W3 (bb.keeps hk3), .inr ⟨rfl, c, (hIx c).put _ hi3 (by omega) (bb.keeps hk3).l rfl, (bb.keeps hk3).put _⟩⟩
    rintro e a3 W3 hp
    cases e with
    | normal =>
      obtain ⟨hk3, hkp3, hi3⟩ := hp
      have b3 := bb.keeps hk3
      exact ⟨_, _, fin none W3 b3, .inl ⟨rfl, ⟨hI.put _ hi3 (by omega) b3.l rfl, b3.put _⟩, hKt (hKt kb hkp3) (hKb _ _ _ _ (by omega) b3.l rfl)⟩⟩
    | ret => exact leave .ret W3 hp.1 hp.2
    | exit id => exact leave (.exit id) W3 hp.1 hp.2
    | goto t => exact leave (.goto t) W3 hp.1 hp.2
    | panic ch => exact hp.elim
    | outgrown => exact hp.elim
  · rintro e W2 ⟨⟨v, rfl⟩, (⟨xs, hS, hi, hk⟩ | ⟨pre, hSp, c, hi, hk⟩)⟩
    · exact ⟨none, _, last _ _ _ hk (by simp), hdone D xs _ (Nat.le_of_eq hD) hS (hI.put _ hi (by omega) hk.l rfl) (hk.put _).d⟩
    · exact ⟨some c, _, last _ _ _ hk (by simp), hstop D c pre _ (Nat.le_of_eq hD) hSp ((hIx c).put _ hi (by omega) hk.l rfl) (hk.put _).d⟩
theorem range_law3 {Fe : Fence} {n : Nat} {P : Program} {α : Type} {g : Operand} {ps : Array Tmp} {assign body : Code} {Q : Exit → Act → World → Prop} {a : Act} {w : World}
    (hro : Fe.round = none) (h1 : 1 ≤ n) {gf : Nat} {lb : Array Value} (hg : a.eval g = .func (.func gf) #[] lb) (hFg : Fe.fn gf) (eg : ∀ args w, (callFunc gf args).run P w = .ok (.enter gf args) w)
    {encs : α → Array Value} {Ok : List α → α → World → Prop} {Kp : World → World → Prop} {S Sp : List α → Prop} {N : Nat} {w0 : World} (hseq : Hands2 Fe (n - 1) P gf lb encs Ok Kp S Sp N w0)
    (hb0 : Below w0.heap.size w0 w) (hKt : ∀ {X Y Z : World}, Kp X Y → Kp Y Z → Kp X Z)
    (hKb : ∀ (W : World) (l : Nat) (o o' : Obj), w.heap.size ≤ l → W.heap[l]? = some o → o.isCells = false → Kp W (W.putObj l o')) (hps : ∀ x, (encs x).size = ps.size)
    (I : List α → World → Prop) (Ix : Code → List α → World → Prop) (R : List α → α → World → Prop) (F : α → Array Value) (hI : Sturdy w.heap.size I) (hIx : ∀ c, Sturdy w.heap.size (Ix c)) (hR : Sturdy w.heap.size (fun (s : List α × α) W => R s.1 s.2 W)) (h0 : I [] w)
    (hassign : ∀ (l : Nat) (pre : List α) (x : α) (W : World) (K : Act → World → Prop), I pre W → Ok pre x W → (∀ W', KeepsOthers W W' → Kp W W' → R pre x W' → K ⟨F x, []⟩ W') →
      assign.wpIn (Fe.inRound l) (n - 1 - 1) P (Exit.then K (fun _ _ _ => False)) { tmps := (ps.zip (encs x)).foldl (fun t (p, v) => t.setIfInBounds p v) a.tmps, defers := [] } W)
    (hbody : ∀ (l : Nat) (pre : List α) (x : α) (W : World), R pre x W → pre.length < N → body.wpIn (Fe.inRound l) (n - 1 - 1) P (ownPostK Kp I Ix (pre ++ [x]) W) ⟨F x, []⟩ W)
    (hdone : ∀ (D : Nat) (xs : List α) (W : World), w.heap.size ≤ D → S xs → I xs W → W.heap[D]? = some (.deferred (some [])) → Q .normal { a with defers := { target := .collected D, args := #[] } :: a.defers } W)
    (hstop : ∀ (D : Nat) (c : Code) (pre : List α) (W : World), w.heap.size ≤ D → Sp pre → Ix c pre W → W.heap[D]? = some (.deferred (some [])) → c.wpIn Fe n P Q { a with defers := { target := .collected D, args := #[] } :: a.defers } W) :
    (Code.rangeFunc g ps assign body).wpIn Fe n P Q a w :=
  range_law2 hro h1 hg hFg eg hseq hb0 hKt hKb hps I Ix (fun s W => R s.1 s.2.1 W ∧ s.2.2 = ⟨F s.2.1, []⟩) hI hIx (fun s W W' S h ht hS => ⟨hR (s.1, s.2.1) W W' S h.1 ht hS, h.2⟩) h0
    (fun l pre x W K h k hK => hassign l pre x W K h k (fun W' a b c => hK _ W' a b ⟨c, rfl⟩))
    (fun l pre x a' W h hl => by obtain ⟨h, e⟩ := h; have e : a' = ⟨F x, []⟩ := e; subst e; exact hbody l pre x W h hl) hdone hstop
set_option maxRecDepth 100000 in
set_option maxHeartbeats 4000000 in
theorem from1_in2 (m : Nat) (hm : 1 ≤ m) (l p n₀ n₁ : Nat) (A : Nat → Prop) (hA : ∀ g, A g → n₁ ≤ g ∧ g ≠ p) (h01 : n₁ ≤ n₀) (at' : Int) (st : Nat) (hst : (if at' < 0 then 0 else at') = (st : Int)) (B b : Nat) (vl vw : Value) (L M : List Q) (x : Lg) (hlen : x.list.length ≤ 200) (hfew : ∀ r ∈ x.list, r.vers.length ≤ 12)
    (J Jx : List Nq → World → Prop) (hJ : ∀ s X Y, J s X → Below X.heap.size X Y → J s Y)
    (hY : ∀ pre y W1, J pre W1 → (y.1 = st + pre.length ∧ OkN x n₀ y W1) → pre.length < x.list.length → YieldAt Fence.wide (m - 1) Try.prog l (encN y) W1 fun e W' =>
      (e = .returned (.bool true) ∧ J (pre ++ [y]) W' ∧ Turns (mayN A n₀) W1 W') ∨ (e = .returned (.bool false) ∧ Jx (pre ++ [y]) W'))
    (W : World) (hp0 : W.cell? ⟨p, 0, none⟩ = some (.pointer (some ⟨b, 0, none⟩))) (hp1 : W.cell? ⟨p + 1, 0, none⟩ = some (.int .i64 at')) (hpn : p + 1 < n₀) (hL : LogAt W B b vl vw L M x) (hu : LUnder n₁ b vl vw L M) (hn0 : n₀ ≤ W.heap.size) (h0 : J [] W) :
    CallsIn Fence.wide m Try.prog 27 #[.func (.yield l) #[] #[], .pointer (some ⟨p, 0, none⟩), .pointer (some ⟨p + 1, 0, none⟩)] W fun e W' => (∃ v, e = .returned v) ∧
      ((∃ ys, (ys.length = x.list.length - st ∧ FirstN x st ys) ∧ J ys W') ∨ (∃ pre, FirstN x st pre ∧ Jx pre W')) := by
  obtain ⟨Dl, cl, rfl, hcl⟩ := hL.hl.form
  have HST := Lib.hid hst
  have hst0 : (0 : Int) ≤ (st : Int) := by omega
  refine callsIn_of_wp Try.func27 rfl trivial ?_ rfl
  simp only [Try.ntmps27, List.size_toArray, List.length_cons, List.length_nil, Nat.reduceAdd, Nat.reduceSub, Array.replicate_succ, Array.replicate_zero, List.push_toArray, List.append_toArray, List.nil_append, List.cons_append]
  have HU : Hid (LUnder n₁ b (.slice Dl x.list.length cl) vw L M) := Lib.hid hu
  have hbn : b < n₀ := Nat.lt_of_lt_of_le (hu.s b (.inl rfl)) h01
  have hpA : ¬ mayN A n₀ p := fun e => e.elim (fun e => (hA p e).2 rfl) (fun e => by omega)
  clear hu
  gi_wp2
  clear hst
  gi_loopw [4] (fun i wr => ∃ pre : List Nq, (pre.length = 0 ∨ st + pre.length ≤ x.list.length) ∧ i = .int .i64 ((st + pre.length : Nat) : Int) ∧ FirstN x st pre ∧ J pre wr ∧ Turns (mayN A n₀) W wr) (fun i _ => x.list.length - (intOf i).toNat)
  case atStart => exact ⟨[], .inl rfl, rfl, FirstN.nil x st, h0, Turns.refl _ _⟩
  case round =>
    obtain ⟨pre, hpl, rfl, hF, hJs, hB⟩ := hrel
    have hLr := hL.far HU.out hB (fun g e => e.elim (fun e => (hA g e).1) (fun e => Nat.le_trans h01 e))
    have hsz := hB.size
    have e0 : wr.cell? ⟨p, 0, none⟩ = some (.pointer (some ⟨b, 0, none⟩)) := hB.cell hp0 hpA
    have c0 : wr.cell? ⟨b, 0, none⟩ = some (.slice Dl x.list.length cl) := hLr.cell 0
    obtain ⟨k, hk⟩ : ∃ k, st + pre.length = k := ⟨_, rfl⟩
    have HK := Lib.hid hk
    have HF := Lib.hid hF
    rw [hk] at hpl ⊢
    clear hF hk
    by_cases hlt : k < x.list.length
    · obtain ⟨q, hq⟩ : ∃ q, L[k]? = some q := ⟨_, List.getElem?_eq_getElem (by rw [hL.ll]; exact hlt)⟩
      have hqr : x.list[k]? = some q.r := by rw [← hL.lr, List.getElem?_map, hq]; rfl
      have hql := hfew q.r (List.mem_of_getElem? hqr)
      have hqc := (hLr.rl q (List.mem_of_getElem? hq)).1
      obtain ⟨g, off, rfl, q0, q1, q2, q3⟩ := get_q hLr.hl.cells hq
      have g3 : (0 : Int) ≤ (k : Int) := by omega
      have g4 : (k : Int) < (x.list.length : Int) := by omega
      have g5 : (k : Int) + 1 ≤ 9223372036854775807 := by omega
      have hpn2 : pre.length < x.list.length := by have := HK.out; omega
      have HQR := Lib.hid hqr
      clear hq hqr
      gi_wp2_with (refine ⟨trivial, ?_⟩; gi_at_call 22; refine (callsIn_wide.2 (ocopy_any q.r q.D _ q.c wr rfl (by omega) hqc)).mono ?_; rintro e w2 ⟨D2, cp2, rfl, hown2, hb2⟩; obtain ⟨fn, tmps, assign, body, hy, hRd⟩ := hY pre (k, ⟨q.r, D2, cp2⟩) w2 (hJ _ _ _ hJs hb2) ⟨HK.out.symm, HQR.out, row_weaken hown2 (by omega)⟩ hpn2; dsimp only [encN] at hy)
      refine hRd.mono ?_
      have hpush := HF.out.push (q := ⟨q.r, D2, cp2⟩) (by rw [HK.out]; exact HQR.out)
      rw [HK.out] at hpush
      have HPU := Lib.hid hpush
      have hw2 : Turns (mayN A n₀) wr w2 := Turns.of_below hb2
      clear hpush hy
      rintro e W3 (⟨rfl, hJ3, hk3⟩ | ⟨rfl, hJx3⟩)
      · gi_wp2
        go_roundw
        case rel => exact ⟨pre ++ [(k, ⟨q.r, D2, cp2⟩)], .inr (by rw [List.length_append, List.length_singleton]; have := HK.out; omega), congrArg (Value.int .i64) (by rw [List.length_append, List.length_singleton]; have := HK.out; omega), HPU.out, hJ3, (hB.trans hw2).trans hk3⟩
        case measure => simp [intOf]; omega
      · gi_wp2
        refine bodyPost_ret (results_none rfl _ _ _) rfl ?_
        exact ⟨⟨_, rfl⟩, .inr ⟨_, HPU.out, hJx3⟩⟩
    · gi_wp2
      go_end0
      exact ⟨⟨_, rfl⟩, .inl ⟨pre, ⟨by have := HK.out; omega, HF.out⟩, hJs⟩⟩
theorem from_hands2 (m : Nat) (hm : 1 ≤ m) (p n₀ n₁ : Nat) (A : Nat → Prop) (hA : ∀ g, A g → n₁ ≤ g ∧ g ≠ p) (h01 : n₁ ≤ n₀) (at' : Int) (st : Nat) (hst : (if at' < 0 then 0 else at') = (st : Int)) (B b : Nat) (vl vw : Value) (L M : List Q) (x : Lg) (hlen : x.list.length ≤ 200) (hfew : ∀ r ∈ x.list, r.vers.length ≤ 12)
    (w : World) (hp0 : w.cell? ⟨p, 0, none⟩ = some (.pointer (some ⟨b, 0, none⟩))) (hp1 : w.cell? ⟨p + 1, 0, none⟩ = some (.int .i64 at')) (hpn : p + 1 < n₀) (hL : LogAt w B b vl vw L M x) (hu : LUnder n₁ b vl vw L M) (hn0 : n₀ ≤ w.heap.size) :
    Hands2 Fence.wide m Try.prog 27 #[.pointer (some ⟨p, 0, none⟩), .pointer (some ⟨p + 1, 0, none⟩)] encN (fun pre y W => y.1 = st + pre.length ∧ OkN x n₀ y W) (Turns (mayN A n₀)) (fun ys => ys.length = x.list.length - st ∧ FirstN x st ys) (FirstN x st) x.list.length w :=
  fun l J Jx W hW hJ _ hY h0 => from1_in2 m hm l p n₀ n₁ A hA h01 at' st hst B b vl vw L M x hlen hfew J Jx hJ hY W (cell_on hW hp0) (cell_on hW hp1) hpn (hL.on hW) hu (Nat.le_trans hn0 hW.size) h0
end Go.Proofs.Ytggbdjdfejcpjaa
