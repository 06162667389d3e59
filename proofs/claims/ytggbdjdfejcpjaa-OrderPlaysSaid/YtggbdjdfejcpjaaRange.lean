/-
  A range over a function whose rounds are handed values that lie in memory: what the iterator says of a value where it hands it on (Ok) is known to the round. Conditions: as the premises say.
-/
import Derived.Test.YtggbdjdfejcpjaaTurn
import Derived.RangeFuncNested
import Derived.RangeFuncBound
import Derived.RangeFuncCalls
import Derived.RangeFuncLeaves
import Derived.OwnWalkIn
import Derived.TacticsInMore
import Derived.LoopNIn
import Derived.LoopIn
namespace Go.Proofs.Ytggbdjdfejcpjaa
open Go.RowKit
set_option linter.unusedVariables false

/-- s stands whatever becomes of blocks from B on that are no cells, and of new memory. -/
def Sturdy {β : Type} (B : Nat) (I : β → World → Prop) : Prop :=
  ∀ s W W' (S : Nat → Prop), I s W → Turns S W W' → (∀ j, S j → B ≤ j ∧ ∃ o : Obj, W.heap[j]? = some o ∧ o.isCells = false) → I s W'
theorem Sturdy.and {β : Type} {B : Nat} {I J : β → World → Prop} (h : Sturdy B I) (k : Sturdy B J) : Sturdy B (fun s W => I s W ∧ J s W) := fun s W W' S hs ht hS => ⟨h s W W' S hs.1 ht hS, k s W W' S hs.2 ht hS⟩
theorem sturdy_below {β : Type} {w0 : World} {B : Nat} (h : w0.heap.size ≤ B) : Sturdy B (fun (_ : β) W => Below w0.heap.size w0 W) := fun _ W W' S hs ht hS => ht.below hs (fun j e => Nat.le_trans h (hS j e).1)
theorem turns_put (W : World) (l : Nat) (o : Obj) : Turns (one l) W (W.putObj l o) :=
  ⟨rfl, rfl, rfl, by simp, fun k _ hk => World.putObj_heap_other (fun e => hk e)⟩
theorem Sturdy.put {β : Type} {B : Nat} {I : β → World → Prop} (h : Sturdy B I) {s : β} {W : World} {l : Nat} {o : Obj} (o' : Obj) (hs : I s W) (hB : B ≤ l) (hl : W.heap[l]? = some o) (ho : o.isCells = false) : I s (W.putObj l o') :=
  h s W _ (one l) hs (turns_put W l o') (fun j e => by have e : j = l := e; subst e; exact ⟨hB, o, hl, ho⟩)
theorem Sturdy.new {β : Type} {B : Nat} {I : β → World → Prop} (h : Sturdy B I) {s : β} {W W' : World} (hs : I s W) (hb : Below W.heap.size W W') : I s W' :=
  h s W W' none' hs (Turns.of_below hb) (fun _ e => e.elim)
/-- what an iterator does: it hands values on, one at a time, each while Ok of it. -/
def Hands {α : Type} (F : Fence) (n : Nat) (P : Program) (g : Nat) (lb : Array Value) (encs : α → Array Value) (Ok : α → World → Prop) (Kp : World → World → Prop) (S Sp : List α → Prop) (N : Nat) (w : World) : Prop :=
  ∀ (l : Nat) (J Jx : List α → World → Prop) (W : World), Below w.heap.size w W → (∀ s X Y, J s X → Below X.heap.size X Y → J s Y) → (∀ s X Y, Jx s X → Below X.heap.size X Y → Jx s Y) →
    (∀ pre x W1, J pre W1 → Ok x W1 → pre.length < N → YieldAt F (n - 1) P l (encs x) W1 fun e W' =>
      (e = .returned (.bool true) ∧ J (pre ++ [x]) W' ∧ Kp W1 W') ∨ (e = .returned (.bool false) ∧ Jx (pre ++ [x]) W')) →
    J [] W →
    CallsIn F n P g (#[.func (.yield l) #[] #[]] ++ lb) W fun e W' => (∃ v, e = .returned v) ∧ ((∃ xs, S xs ∧ J xs W') ∨ (∃ pre, Sp pre ∧ Jx pre W'))
/-- the loop's own two blocks. -/
structure Bk (W : World) (D : Nat) (r : Loop) : Prop where
  l : W.heap[D + 1]? = some (.loop r)
  d : W.heap[D]? = some (.deferred (some []))
theorem Bk.turn {S : Nat → Prop} {W W' : World} {D : Nat} {r : Loop} (h : Bk W D r) (ht : Turns S W W') (h1 : ¬ S (D + 1)) (h2 : ¬ S D) : Bk W' D r :=
  ⟨(ht.block _ (Array.getElem?_eq_some_iff.1 h.l).1 h1).trans h.l, (ht.block _ (Array.getElem?_eq_some_iff.1 h.d).1 h2).trans h.d⟩
theorem Bk.put {W : World} {D : Nat} {r : Loop} (h : Bk W D r) (r' : Loop) : Bk (W.putObj (D + 1) (.loop r')) D r' :=
  ⟨World.putObj_heap_same (Array.getElem?_eq_some_iff.1 h.l).1, (World.putObj_heap_other (by omega)).trans h.d⟩
theorem Bk.keeps {W W' : World} {D : Nat} {r : Loop} (h : Bk W D r) (hk : KeepsOthers W W') : Bk W' D r := ⟨hk.same _ _ h.l rfl, hk.same _ _ h.d rfl⟩

theorem range_law {F : Fence} {n : Nat} {P : Program} {α : Type} {g : Operand} {ps : Array Tmp} {assign body : Code} {Q : Exit → Act → World → Prop} {a : Act} {w : World}
    (hro : F.round = none) (h1 : 1 ≤ n) {gf : Nat} {lb : Array Value} (hg : a.eval g = .func (.func gf) #[] lb) (hFg : F.fn gf) (eg : ∀ args w, (callFunc gf args).run P w = .ok (.enter gf args) w)
    {encs : α → Array Value} {Ok : α → World → Prop} {Kp : World → World → Prop} {S Sp : List α → Prop} {N : Nat} {w0 : World} (hseq : Hands F (n - 1) P gf lb encs Ok Kp S Sp N w0)
    (hb0 : Below w0.heap.size w0 w) (hKt : ∀ {X Y Z : World}, Kp X Y → Kp Y Z → Kp X Z)
    (hKb : ∀ (W : World) (l : Nat) (o o' : Obj), w.heap.size ≤ l → W.heap[l]? = some o → o.isCells = false → Kp W (W.putObj l o')) (hps : ∀ x, (encs x).size = ps.size)
    (I : List α → World → Prop) (Ix : Code → List α → World → Prop) (Ax : (List α × α × Act) → World → Prop) (hI : Sturdy w.heap.size I) (hIx : ∀ c, Sturdy w.heap.size (Ix c)) (hAx : Sturdy w.heap.size Ax) (h0 : I [] w)
    (hassign : ∀ (l : Nat) (pre : List α) (x : α) (W : World) (K : Act → World → Prop), I pre W → Ok x W → (∀ a' W', KeepsOthers W W' → Kp W W' → Ax (pre, x, a') W' → K a' W') →
      assign.wpIn (F.inRound l) (n - 1 - 1) P (Exit.then K (fun _ _ _ => False)) { tmps := (ps.zip (encs x)).foldl (fun t (p, v) => t.setIfInBounds p v) a.tmps, defers := [] } W)
    (hbody : ∀ (l : Nat) (pre : List α) (x : α) (a' : Act) (W : World), Ax (pre, x, a') W → pre.length < N → body.wpIn (F.inRound l) (n - 1 - 1) P (ownPostK Kp I Ix (pre ++ [x]) W) a' W)
    (hdone : ∀ (D : Nat) (xs : List α) (W : World), w.heap.size ≤ D → S xs → I xs W → W.heap[D]? = some (.deferred (some [])) → Q .normal { a with defers := { target := .collected D, args := #[] } :: a.defers } W)
    (hstop : ∀ (D : Nat) (c : Code) (pre : List α) (W : World), w.heap.size ≤ D → Sp pre → Ix c pre W → W.heap[D]? = some (.deferred (some [])) → c.wpIn F n P Q { a with defers := { target := .collected D, args := #[] } :: a.defers } W) :
    (Code.rangeFunc g ps assign body).wpIn F n P Q a w := by
  refine wpIn_rangeFunc fun fn hfn => ?_
  rw [hro]
  obtain ⟨D, hD⟩ : ∃ D, w.heap.size = D := ⟨_, rfl⟩
  obtain ⟨rec, hrec⟩ : ∃ rec : LoopState → Option Code → Loop, rec = fun st pe => { state := st, pending := pe, fn, tmps := a.tmps, params := ps, assign, body, defers := D } := ⟨_, rfl⟩
  obtain ⟨V, hV⟩ : ∃ V, (w.alloc (.deferred (some []))).alloc (.loop (rec .ready none)) = V := ⟨_, rfl⟩
  have hs1 : (w.alloc (.deferred (some []))).heap.size = D + 1 := by simp [hD]
  have bV : Bk V D (rec .ready none) := by
    subst hV
    refine ⟨by rw [← hs1]; exact World.alloc_heap_new _ _, ?_⟩
    rw [Below.heap_alloc _ _ _ (by rw [hs1]; omega), ← hD]
    exact World.alloc_heap_new w _
  have hwV : Below w.heap.size w V := hV ▸ own_alloc (own_alloc (own_refl w) _) _
  have hrp : (rec .ready none).params = ps := by rw [hrec]
  refine ⟨D + 1, [{ target := .collected D, args := #[] }], V, { target := .fn (.func gf) lb, args := #[.func (.yield (D + 1)) #[] #[]] }, V, gf, #[.func (.yield (D + 1)) #[] #[]] ++ lb, V, ?_, ?_, fun f' hf' => ?_, ?_, fun _ => h1, ?_⟩
  · rw [← hV, hrec, ← hD]; exact run_enterLoop_outer _ _ _ _ _
  · simp only [resolve, hg]
    simp [go_sem]
  · simp [Target.leads] at hf'; subst hf'; exact hFg
  · simp [invoke, go_sem, eg]
  rw [hD] at hI hIx hAx hKb
  have fin : ∀ (jump : Option Code) (W : World), Bk W D (rec .busy none) → (Instr.endRound (D + 1) jump).run P W = .ok (.bool jump.isNone) (W.putObj (D + 1) (.loop (rec (if jump.isNone then .ready else .done) jump))) := fun jump W h => by
    have := run_endRound (P := P) jump h.l
    rw [hrec] at this ⊢
    exact this
  have last : ∀ (st : LoopState) (pe : Option Code) (W : World), Bk W D (rec st pe) → st ≠ .busy → (Instr.endLoop (D + 1)).run P W = .ok pe (W.putObj (D + 1) (.loop (rec .exhausted pe))) := fun st pe W h hne => by
    have := run_endLoop (P := P) h.l (by rw [hrec]; exact hne)
    rw [hrec] at this ⊢
    exact this
  refine (hseq (D + 1) (fun pre W => I pre W ∧ Bk W D (rec .ready none)) (fun pre W => ∃ c, Ix c pre W ∧ Bk W D (rec .done (some c))) V (below_own hb0 hwV)
    (fun s X Y hs hb => ⟨hI.new hs.1 hb, hs.2.turn (Turns.of_below (S := none') hb) id id⟩)
    (fun s X Y hs hb => by obtain ⟨c, hc, hk⟩ := hs; exact ⟨c, (hIx c).new hc hb, hk.turn (Turns.of_below (S := none') hb) id id⟩) ?_ ⟨hI.new h0 hwV, bV⟩).mono ?_
  · rintro pre x W ⟨hi, hbk⟩ hok hlen
    have hy := run_yield (P := P) (args := encs x) hbk.l (by rw [hrp]; exact hps x)
    rw [hrec] at hy
    refine ⟨fn, _, assign, body, hy, roundIn_of_wpIn hfn (hassign _ pre x W _ hi hok fun a' W' hk hkp hax => ?_)⟩
    have hbk' := hbk.keeps hk
    have hbusy := run_beginRound (P := P) hbk'.l (by rw [hrec])
    rw [show ({ rec .ready none with state := .busy } : Loop) = rec .busy none from by rw [hrec]] at hbusy
    refine ⟨_, hbusy, wpIn_mono (hbody _ pre x a' _ (hAx.put _ hax (by omega) hbk'.l rfl) hlen) ?_⟩
    have kb : Kp W (W'.putObj (D + 1) (.loop (rec .busy none))) := hKt hkp (hKb _ _ _ _ (by omega) hbk'.l rfl)
    have bb := hbk'.put (rec .busy none)
    have leave : ∀ (c : Code) (W3 : World), KeepsOthers (W'.putObj (D + 1) (.loop (rec .busy none))) W3 → Ix c (pre ++ [x]) W3 →
        ∃ v w', (Instr.endRound (D + 1) (some c)).run P W3 = .ok v w' ∧ ((Ending.returned v = .returned (.bool true) ∧ (I (pre ++ [x]) w' ∧ Bk w' D (rec .ready none)) ∧ Kp W w') ∨ (Ending.returned v = .returned (.bool false) ∧ ∃ c, Ix c (pre ++ [x]) w' ∧ Bk w' D (rec .done (some c)))) := fun c W3 hk3 hi3 =>
      ⟨_, _, fin (some c) W3 (bb.keeps hk3), .inr ⟨rfl, c, (hIx c).put _ hi3 (by omega) (bb.keeps hk3).l rfl, (bb.keeps hk3).put _⟩⟩
    rintro e a3 W3 hp
    cases e with
    | normal =>
      obtain ⟨hk3, hkp3, hi3⟩ := hp
      have b3 := bb.keeps hk3
      exact ⟨_, _, fin none W3 b3, .inl ⟨rfl, ⟨hI.put _ hi3 (by omega) b3.l rfl, b3.put _⟩, hKt (hKt kb hkp3) (hKb _ _ _ _ (by omega) b3.l rfl)⟩⟩
    | ret => exact leave .ret W3 hp.1 hp.2
    | exit id => exact leave (.exit id) W3 hp.1 hp.2
    | goto t => exact leave (.goto t) W3 hp.1 hp.2
    | panic ch => exact hp.elim
    | outgrown => exact hp.elim
  · rintro e W2 ⟨⟨v, rfl⟩, (⟨xs, hS, hi, hk⟩ | ⟨pre, hSp, c, hi, hk⟩)⟩
    · exact ⟨none, _, last _ _ _ hk (by simp), hdone D xs _ (Nat.le_of_eq hD) hS (hI.put _ hi (by omega) hk.l rfl) (hk.put _).d⟩
    · exact ⟨some c, _, last _ _ _ hk (by simp), hstop D c pre _ (Nat.le_of_eq hD) hSp ((hIx c).put _ hi (by omega) hk.l rfl) (hk.put _).d⟩
end Go.Proofs.Ytggbdjdfejcpjaa
