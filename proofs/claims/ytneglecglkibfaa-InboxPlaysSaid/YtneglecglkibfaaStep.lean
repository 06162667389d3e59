/-
  The calls of a box in one shape, whatever is handed in. Conditions: the box lies as the hypotheses say and is not too long.
-/
import Derived.Test.YtneglecglkibfaaDoneOk
import Derived.Test.YtneglecglkibfaaAwakeI
namespace Go.Proofs.Ytneglecglkibfaa
open Go.RowKit Go.Maps
set_option linter.unusedVariables false

/-- a call of the box ends so: P of the answer, the world and the box; only the box's blocks have turned, and what is new in it is new memory. -/
def StepIs (w : World) (B b m : Nat) (vl vd : Value) (P : Ending → World → Bx → Prop) (e : Ending) (w' : World) : Prop :=
  ∃ vl' vd' L' x', P e w' x' ∧ BoxAt w' B b m vl' vd' L' x' ∧ Turns (boxS b m vl vd) w w' ∧ ∀ g, g < w.heap.size → boxS b m vl' vd' g → boxS b m vl vd g
structure Fine (x : Bx) (k : Nat) : Prop where
  ok : x.ok
  up : x.base + x.list.length ≤ 1152921504606846976 + k
  ln : x.list.length ≤ k
  hn : x.hearts.length ≤ k
def PutR (x : Bx) (at' : Int) (r : R) (e : Ending) (w' : World) (x' : Bx) : Prop :=
  (at' < x.base + x.list.length ∧ e = .returned (.int .i64 11) ∧ x' = x) ∨ (x.base + x.list.length < at' ∧ e = .returned (.int .i64 7) ∧ x' = x) ∨
  (at' = x.base + x.list.length ∧ e = .returned (.int .i64 0) ∧ x' = ⟨x.base, x.list ++ [r], x.handed, x.done ++ [false], x.hearts, x.got⟩)
theorem put_any (w : World) (B b m : Nat) (vl vd : Value) (L : List Q) (x : Bx) (h : BoxAt w B b m vl vd L x) (r : R) (D : Option Addr) (c : Nat) (at' : Int) (hx : x.ok) (hl : x.list.length ≤ 150) (hr : r.vers.length ≤ 1000) (hD : Cells w D (flatV r.vers)) (hB : B ≤ w.heap.size) :
    Calls Try.prog 11 #[.pointer (some ⟨b, 0, none⟩), .int .i64 at', .agg #[.int .u64 r.ts, .int .i64 r.dc, .int .i64 r.tx, .slice D r.vers.length c]] w (StepIs w B b m vl vd (PutR x at' r)) := by
  rcases (by omega : at' < x.base + x.list.length ∨ x.base + x.list.length < at' ∨ at' = x.base + x.list.length) with c1 | c1 | c1
  · exact (put_old w B b m vl vd L x h r D _ c at' c1 hx).mono fun e w' ⟨he, hb⟩ => ⟨vl, vd, L, x, .inl ⟨c1, he, rfl⟩, h.on hb, Turns.of_below hb, fun g _ e => e⟩
  · exact (put_far w B b m vl vd L x h r D _ c at' c1 hx).mono fun e w' ⟨he, hb⟩ => ⟨vl, vd, L, x, .inr (.inl ⟨c1, he, rfl⟩), h.on hb, Turns.of_below hb, fun g _ e => e⟩
  · exact (put_ok w B b m vl vd L x h r D c at' c1 hx hl hr hD hB).mono fun e w' ⟨vl', vd', q, he, hq, hB', ht, h1, h2, _⟩ => ⟨vl', vd', _, _, .inr (.inr ⟨c1, he, rfl⟩), hB', ht, fun g hg e => by
      rcases e with e | e | e | e
      · exact .inl e
      · exact .inr (.inl e)
      · exact .inr (.inr (.inl (h1 g hg e)))
      · exact .inr (.inr (.inr (h2 g hg e)))⟩
/-- what Next answers: zeroes, or the commit in new memory. -/
def NextR (x : Bx) (w : World) (e : Ending) (w' : World) (x' : Bx) : Prop :=
  (x.handed = x.list.length ∧ e = .returned (.tuple #[.int .i64 0, .agg #[.int .u64 0, .int .i64 0, .int .i64 0, .slice none 0 0], .bool false]) ∧ x' = x) ∨
  ∃ r D cp, x.list[x.handed]? = some r ∧ e = .returned (.tuple #[.int .i64 (x.base + x.handed), .agg #[.int .u64 r.ts, .int .i64 r.dc, .int .i64 r.tx, .slice D r.vers.length cp], .bool true]) ∧ w'.ownsRow w.heap.size 32 6 (.slice D r.vers.length cp) r.vers.length (flatV r.vers) ∧ x' = ⟨x.base, x.list, x.handed + 1, x.done, x.hearts, x.got⟩
theorem next_any (w : World) (B b m : Nat) (vl vd : Value) (L : List Q) (x : Bx) (h : BoxAt w B b m vl vd L x) (hx : x.ok) :
    Calls Try.prog 13 #[.pointer (some ⟨b, 0, none⟩)] w (StepIs w B b m vl vd (NextR x w)) := by
  have hd := hx.hd
  rcases (by omega : x.handed = x.list.length ∨ x.handed < x.list.length) with c1 | c1
  · exact (Next_no w B b m vl vd L x h c1).mono fun e w' ⟨he, hb⟩ => ⟨vl, vd, L, x, .inl ⟨c1, he, rfl⟩, h.on hb, Turns.of_below hb, fun g _ e => e⟩
  · obtain ⟨r, hr⟩ : ∃ r, x.list[x.handed]? = some r := ⟨_, List.getElem?_eq_getElem c1⟩
    have hf := hx.few r (List.mem_of_getElem? hr)
    have h1 := hx.l1
    have h2 := hx.b1
    exact (Next_yes w B b m vl vd L x h r hr (by omega) (by omega) hx.b0 (by omega)).mono fun e w' ⟨D, cp, he, hrow, hB', ht⟩ => ⟨vl, vd, L, _, .inr ⟨r, D, cp, hr, he, hrow, rfl⟩, hB', ht.weaken fun j _ e => .inl e, fun g _ e => e⟩
def PeekR (x : Bx) (w : World) (e : Ending) (w' : World) : Prop :=
  (x.handed = x.list.length ∧ e = .returned (.tuple #[.agg #[.int .u64 0, .int .i64 0, .int .i64 0, .slice none 0 0], .bool false])) ∨
  ∃ r D cp, x.list[x.handed]? = some r ∧ e = .returned (.tuple #[.agg #[.int .u64 r.ts, .int .i64 r.dc, .int .i64 r.tx, .slice D r.vers.length cp], .bool true]) ∧ w'.ownsRow w.heap.size 32 6 (.slice D r.vers.length cp) r.vers.length (flatV r.vers)
theorem peek_any (w : World) (B b m : Nat) (vl vd : Value) (L : List Q) (x : Bx) (h : BoxAt w B b m vl vd L x) (hx : x.ok) :
    Calls Try.prog 12 #[.pointer (some ⟨b, 0, none⟩)] w fun e w' => PeekR x w e w' ∧ Below w.heap.size w w' := by
  have hd := hx.hd
  rcases (by omega : x.handed = x.list.length ∨ x.handed < x.list.length) with c1 | c1
  · exact (Peek_no w B b m vl vd L x h c1).mono fun e w' ⟨he, hb⟩ => ⟨.inl ⟨c1, he⟩, hb⟩
  · obtain ⟨r, hr⟩ : ∃ r, x.list[x.handed]? = some r := ⟨_, List.getElem?_eq_getElem c1⟩
    have hf := hx.few r (List.mem_of_getElem? hr)
    have h1 := hx.l1
    exact (Peek_yes w B b m vl vd L x h r hr (by omega) (by omega)).mono fun e w' ⟨D, cp, he, hrow, hb⟩ => ⟨.inr ⟨r, D, cp, hr, he, hrow⟩, hb⟩
/-- whether Done takes a place, and what it answers. -/
def DoneR (x : Bx) (at' : Int) (e : Ending) (w' : World) (x' : Bx) : Prop :=
  ((at' < x.base ∨ ∃ k : Nat, at' = x.base + k ∧ (x.handed ≤ k ∨ (k < x.handed ∧ x.done[k]? = some true))) ∧ e = .returned (.int .i64 7) ∧ x' = x) ∨
  ∃ k n : Nat, at' = x.base + k ∧ k < x.handed ∧ x.done[k]? = some false ∧ n ≤ x.handed ∧ (∀ j, j < n → (x.done.set k true)[j]? = some true) ∧ (n = x.handed ∨ (x.done.set k true)[n]? = some false) ∧ e = .returned (.int .i64 0) ∧ x' = settleB (doneX x k n)
theorem done_any (w : World) (B b m : Nat) (vl vd : Value) (L : List Q) (x : Bx) (h : BoxAt w B b m vl vd L x) (hx : x.ok) (at' : Int) (wa : at' ≤ 9223372036854775807) :
    Calls Try.prog 16 #[.pointer (some ⟨b, 0, none⟩), .int .i64 at'] w (StepIs w B b m vl vd (DoneR x at')) := by
  rcases (by omega : at' < x.base ∨ x.base ≤ at') with c1 | c1
  · exact (done_low w B b m vl vd L x h at' hx c1).mono fun e w' ⟨he, hb⟩ => ⟨vl, vd, L, x, .inl ⟨.inl c1, he, rfl⟩, h.on hb, Turns.of_below hb, fun g _ e => e⟩
  · obtain ⟨k, hk⟩ : ∃ k : Nat, at' = x.base + k := ⟨(at' - x.base).toNat, by omega⟩
    rcases Nat.lt_or_ge k x.handed with c2 | c2
    · have h1 := hx.hd
      have h2 := hx.dn
      obtain ⟨v, hv⟩ : ∃ v, x.done[k]? = some v := ⟨_, List.getElem?_eq_getElem (by omega)⟩
      cases v with
      | true => exact (done_was w B b m vl vd L x h at' hx k hk c2 hv).mono fun e w' ⟨he, hb⟩ => ⟨vl, vd, L, x, .inl ⟨.inr ⟨k, hk, .inr ⟨c2, hv⟩⟩, he, rfl⟩, h.on hb, Turns.of_below hb, fun g _ e => e⟩
      | false => exact (done_ok w B b m vl vd L x h at' hx k hk c2 hv).mono fun e w' ⟨n, vl', vd', hn, ha, he2, he, hB', ht, e1, e2⟩ => ⟨vl', vd', _, _, .inr ⟨k, n, hk, c2, hv, hn, ha, he2, he, rfl⟩, hB', ht, fun g _ e => by
          rcases e with e | e | e | e
          · exact .inl e
          · exact .inr (.inl e)
          · exact .inr (.inr (.inl (e1 ▸ e)))
          · exact .inr (.inr (.inr (e2 ▸ e)))⟩
    · exact (done_far w B b m vl vd L x h at' hx k hk wa c2).mono fun e w' ⟨he, hb⟩ => ⟨vl, vd, L, x, .inl ⟨.inr ⟨k, hk, .inl c2⟩, he, rfl⟩, h.on hb, Turns.of_below hb, fun g _ e => e⟩
def HeartR (x : Bx) (t at' : Int) (e : Ending) (w' : World) (x' : Bx) : Prop := e = .returned (.tuple #[]) ∧ x' = heartB x t at'
theorem heart_step (w : World) (B b m : Nat) (vl vd : Value) (L : List Q) (x : Bx) (h : BoxAt w B b m vl vd L x) (hl : x.hearts.length ≤ 1000) (t at' : Int) (wt : (Lit.int .u64 t).wf = true) (wa : (Lit.int .i64 at').wf = true) :
    Calls Try.prog 22 #[.pointer (some ⟨b, 0, none⟩), .int .u64 t, .int .i64 at'] w (StepIs w B b m vl vd (HeartR x t at')) :=
  (heart_any w B b m vl vd L x h hl t at' wt wa).mono fun e w' ⟨he, hB', ht⟩ => ⟨vl, vd, L, _, ⟨he, rfl⟩, hB', ht.weaken fun j _ e => by rcases e with e | e; exact .inl e; exact .inr (.inl e), fun g _ e => e⟩

theorem Fine.new (at' : Int) (h : at' ≤ 1152921504606846976) : Fine (box0 at') 0 := ⟨box0_ok at' h, by simp [box0]; omega, by simp [box0], by simp [box0]⟩
theorem Fine.more {x : Bx} {k : Nat} (h : Fine x k) : Fine x (k + 1) := ⟨h.ok, by have := h.up; omega, by have := h.ln; omega, by have := h.hn; omega⟩
theorem Fine.put {x x' : Bx} {k : Nat} {at' : Int} {r : R} {e : Ending} {w' : World} (h : Fine x k) (hk : k ≤ 140) (hr : r.vers.length ≤ 12) (hp : PutR x at' r e w' x') : Fine x' (k + 1) := by
  rcases hp with ⟨_, _, rfl⟩ | ⟨_, _, rfl⟩ | ⟨_, _, rfl⟩
  · exact h.more
  · exact h.more
  · have h1 := h.ok
    have h2 := h.up
    have h3 := h.ln
    have h4 := h.hn
    refine ⟨⟨h1.b0, h1.b1, ?_, ?_, ?_, ?_, h1.g0, h1.g1, h1.h1, h1.hv⟩, ?_, ?_, ?_⟩
    · simp only [List.length_append, List.length_singleton]; omega
    · have := h1.hd; simp only [List.length_append, List.length_singleton]; omega
    · have := h1.dn; simp only [List.length_append, List.length_singleton]; omega
    · intro r' hr'
      rcases List.mem_append.1 hr' with e | e
      · exact h1.few r' e
      · rw [List.mem_singleton] at e; subst e; exact hr
    · simp only [List.length_append, List.length_singleton]; omega
    · simp only [List.length_append, List.length_singleton]; omega
    · show x.hearts.length ≤ _; omega
theorem Fine.next {x x' : Bx} {k : Nat} {w w' : World} {e : Ending} (h : Fine x k) (hp : NextR x w e w' x') : Fine x' (k + 1) := by
  rcases hp with ⟨_, _, rfl⟩ | ⟨r, D, cp, hr, _, _, rfl⟩
  · exact h.more
  · have h1 := h.ok
    have hlt : x.handed < x.list.length := (List.getElem?_eq_some_iff.1 hr).1
    exact ⟨⟨h1.b0, h1.b1, h1.l1, hlt, h1.dn, h1.few, h1.g0, h1.g1, h1.h1, h1.hv⟩, by have := h.up; show x.base + x.list.length ≤ _; omega, by have := h.ln; show x.list.length ≤ _; omega, by have := h.hn; show x.hearts.length ≤ _; omega⟩
theorem gotH_bd {H : List (Int × Int)} {base g : Int} (h0 : 0 ≤ g) (h1 : g ≤ 18446744073709551615) (hv : ∀ p ∈ H, (-9223372036854775808 ≤ p.1 ∧ p.1 ≤ 9223372036854775807) ∧ 0 ≤ p.2 ∧ p.2 ≤ 18446744073709551615) : 0 ≤ gotH H base g ∧ gotH H base g ≤ 18446744073709551615 := by
  have h2 := (gotH_le H base g).1
  rcases gotH_is H base g with e | ⟨p, hp, _, e⟩
  · omega
  · have := hv p hp; omega
theorem Fine.settle {x : Bx} {k : Nat} (h : Fine x k) : Fine (settleB x) k := by
  have h1 := h.ok
  have hg := gotH_bd (base := x.base) h1.g0 h1.g1 h1.hv
  have hl : (staysH x.hearts x.base).length ≤ x.hearts.length := List.length_filter_le _ _
  exact ⟨⟨h1.b0, h1.b1, h1.l1, h1.hd, h1.dn, h1.few, hg.1, hg.2, by have := h1.h1; show (staysH x.hearts x.base).length ≤ _; omega, fun p hp => h1.hv p (List.mem_filter.1 hp).1⟩, h.up, h.ln, by have := h.hn; show (staysH x.hearts x.base).length ≤ _; omega⟩
theorem Fine.done {x x' : Bx} {k : Nat} {at' : Int} {w' : World} {e : Ending} (h : Fine x k) (hk : k ≤ 140) (hp : DoneR x at' e w' x') : Fine x' (k + 1) := by
  rcases hp with ⟨_, _, rfl⟩ | ⟨k', n, hk', hlt, hf, hn, ha, he, _, rfl⟩
  · exact h.more
  · refine Fine.settle ?_
    have h1 := h.ok
    have h2 := h.up
    have h3 := h.ln
    have h4 := h1.hd
    have h5 := h1.dn
    have h6 := h1.b0
    have e1 : (doneX x k' n).list.length = x.list.length - n := List.length_drop ..
    have e2 : (doneX x k' n).base = x.base + n := rfl
    refine ⟨⟨by rw [e2]; omega, by rw [e2]; omega, by rw [e1]; have := h1.l1; omega, by rw [e1]; show x.handed - n ≤ _; omega, ?_, fun r hr => h1.few r (List.mem_of_mem_drop hr), h1.g0, h1.g1, h1.h1, h1.hv⟩, by rw [e1, e2]; omega, by rw [e1]; omega, by have := h.hn; show x.hearts.length ≤ _; omega⟩
    rw [e1]
    show ((x.done.set k' true).drop n).length = _
    rw [List.length_drop, List.length_set]
    omega
theorem Fine.heart {x x' : Bx} {k : Nat} {t at' : Int} {w' : World} {e : Ending} (h : Fine x k) (hk : k ≤ 140) (ht : 0 ≤ t ∧ t ≤ 18446744073709551615) (ha : -9223372036854775808 ≤ at' ∧ at' ≤ 9223372036854775807) (hp : HeartR x t at' e w' x') : Fine x' (k + 1) := by
  obtain ⟨_, rfl⟩ := hp
  refine Fine.settle ?_
  have h1 := h.ok
  have h4 := h.hn
  have hl : (heardH x.hearts t at').length ≤ x.hearts.length + 1 := by
    unfold heardH
    rw [List.length_append, List.length_singleton]
    have : (drop x.hearts at').length ≤ x.hearts.length := List.length_filter_le _ _
    omega
  refine ⟨⟨h1.b0, h1.b1, h1.l1, h1.hd, h1.dn, h1.few, h1.g0, h1.g1, by show (heardH x.hearts t at').length ≤ _; omega, fun p hp => ?_⟩, by have := h.up; show x.base + x.list.length ≤ _; omega, by have := h.ln; show x.list.length ≤ _; omega, by show (heardH x.hearts t at').length ≤ _; omega⟩
  rcases List.mem_append.1 hp with e | e
  · exact h1.hv p (mem_drop.1 e).1
  · rw [List.mem_singleton] at e
    subst e
    refine ⟨ha, ?_⟩
    show 0 ≤ max (look x.hearts at') t ∧ max (look x.hearts at') t ≤ _
    cases hk : keyed x.hearts at'
    · rw [look_none hk]; omega
    · have := h1.hv _ (look_mem hk); simp only at this; omega
end Go.Proofs.Ytneglecglkibfaa
