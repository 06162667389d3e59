/-
  The walk of From: the stable commits from a place on, each in new memory. Conditions: the log lies as the hypotheses say.
-/
import Derived.Test.YtggbdjdfejcpjaaOrdR
import Derived.Test.YtggbdjdfejcpjaaRange
import Derived.Shelf.Abstract
import Derived.Shelf.RegionOpen
namespace Go.Proofs.Ytggbdjdfejcpjaa
open Go.RowKit Go.Maps Go.Shelf
attribute [local go_sem] Oper.semAt_some
set_option linter.unusedVariables false

/-- what is handed on at a place: the commit's number, and the commit. -/
abbrev Nq := Nat × Q
def encN (x : Nq) : Array Value := #[.int .i64 x.1, .agg #[.int .u64 x.2.r.ts, .int .i64 x.2.r.dc, .int .i64 x.2.r.tx, .slice x.2.D x.2.r.vers.length x.2.c]]
/-- it is the log's, in memory of its own. -/
def OkN (x : Lg) (n₀ : Nat) (y : Nq) (W : World) : Prop := x.list[y.1]? = some y.2.r ∧ W.ownsRow n₀ 58 6 (.slice y.2.D y.2.r.vers.length y.2.c) y.2.r.vers.length (flatV y.2.r.vers)
/-- the first of them, from a place on. -/
def FirstN (x : Lg) (st : Nat) (ys : List Nq) : Prop := ∀ (j : Nat) y, ys[j]? = some y → y.1 = st + j ∧ x.list[st + j]? = some y.2.r
theorem FirstN.nil (x : Lg) (st : Nat) : FirstN x st [] := fun j y h => by simp at h
theorem FirstN.push {x : Lg} {st : Nat} {ys : List Nq} (h : FirstN x st ys) {q : Q} (hq : x.list[st + ys.length]? = some q.r) : FirstN x st (ys ++ [(st + ys.length, q)]) := by
  intro j y hy
  rcases Nat.lt_or_ge j ys.length with c | c
  · rw [List.getElem?_append_left c] at hy; exact h j y hy
  · rw [List.getElem?_append_right c] at hy
    rcases Nat.eq_or_lt_of_le c with c | c
    · subst c
      simp at hy
      subst hy
      exact ⟨rfl, hq⟩
    · rw [List.getElem?_eq_none (by simp; omega)] at hy; cases hy
theorem from_any (p : Option Addr) (at' : Int) (w : World) : Calls Try.prog 16 #[.pointer p, .int .i64 at'] w fun e w' => e = .returned (.func (.func 27) #[] #[.pointer (some ⟨w.heap.size, 0, none⟩), .pointer (some ⟨w.heap.size + 1, 0, none⟩)]) ∧ w' = (w.alloc (.cells #[.pointer p] 23)).alloc (.cells #[.int .i64 at'] 3) := by
  go_enter Try.func16, Try.ntmps16
  go_wp2
  go_ret
  exact ⟨rfl, rfl⟩
/-- all that the log leads to lies below a block. -/
structure LUnder (n₀ b : Nat) (vl vw : Value) (L M : List Q) : Prop where
  s : ∀ g, logS b vl vw g → g < n₀
  q : ∀ q, q ∈ L ∨ q ∈ M → ∀ g, q.D.map Addr.block = some g → g < n₀
theorem LogAt.under {w : World} {B b : Nat} {vl vw : Value} {L M : List Q} {x : Lg} (h : LogAt w B b vl vw L M x) : LUnder w.heap.size b vl vw L M :=
  ⟨h.lt, fun q hq g hg => by rcases hq with e | e; exact ((h.rl q e).2 g hg).lt; exact ((h.rm q e).2 g hg).lt⟩
theorem LogAt.far {S : Nat → Prop} {w w' : World} {B b n₀ : Nat} {vl vw : Value} {L M : List Q} {x : Lg} (h : LogAt w B b vl vw L M x) (u : LUnder n₀ b vl vw L M) (ht : Turns S w w') (hS : ∀ g, S g → n₀ ≤ g) : LogAt w' B b vl vw L M x :=
  ⟨(ht.block b h.blt (fun e => by have := hS b e; have := u.s b (.inl rfl); omega)).trans h.hb, h.hl.turn ht (fun g hg e => by have := hS g e; have := u.s g (.inr (.inl hg)); omega), h.hw.turn ht (fun g hg e => by have := hS g e; have := u.s g (.inr (.inr hg)); omega), h.lr, h.mr,
    fun q hq => ⟨ht.cells (h.rl q hq).1 (fun g hg e => by have := hS g e; have := u.q q (.inl hq) g hg; omega), fun g hg => ((h.rl q hq).2 g hg).turn ht (fun e => by have := hS g e; have := u.q q (.inl hq) g hg; omega)⟩,
    fun q hq => ⟨ht.cells (h.rm q hq).1 (fun g hg e => by have := hS g e; have := u.q q (.inr hq) g hg; omega), fun g hg => ((h.rm q hq).2 g hg).turn ht (fun e => by have := hS g e; have := u.q q (.inr hq) g hg; omega)⟩, h.nlw⟩
theorem below_turns {n₀ : Nat} {w w' : World} (h : Below n₀ w w') : Turns (fun k => n₀ ≤ k) w w' := ⟨h.os, h.tape, h.output, h.size, fun k hk hn => h.block k (by omega)⟩
/-- what a round may turn: the blocks of A, and all that came behind n₀. -/
def mayN (A : Nat → Prop) (n₀ : Nat) : Nat → Prop := fun k => A k ∨ n₀ ≤ k
set_option maxRecDepth 100000 in
set_option maxHeartbeats 4000000 in
theorem from1_in (m : Nat) (hm : 1 ≤ m) (l p n₀ n₁ : Nat) (A : Nat → Prop) (hA : ∀ g, A g → n₁ ≤ g ∧ g ≠ p) (h01 : n₁ ≤ n₀) (at' : Int) (st : Nat) (hst : (if at' < 0 then 0 else at') = (st : Int)) (B b : Nat) (vl vw : Value) (L M : List Q) (x : Lg) (hlen : x.list.length ≤ 200) (hfew : ∀ r ∈ x.list, r.vers.length ≤ 12)
    (J Jx : List Nq → World → Prop) (hJ : ∀ s X Y, J s X → Below X.heap.size X Y → J s Y)
    (hY : ∀ pre y W1, J pre W1 → OkN x n₀ y W1 → pre.length < x.list.length → YieldAt Fence.wide (m - 1) Try.prog l (encN y) W1 fun e W' =>
      (e = .returned (.bool true) ∧ J (pre ++ [y]) W' ∧ Turns (mayN A n₀) W1 W') ∨ (e = .returned (.bool false) ∧ Jx (pre ++ [y]) W'))
    (W : World) (hp0 : W.cell? ⟨p, 0, none⟩ = some (.pointer (some ⟨b, 0, none⟩))) (hp1 : W.cell? ⟨p + 1, 0, none⟩ = some (.int .i64 at')) (hpn : p + 1 < n₀) (hL : LogAt W B b vl vw L M x) (hu : LUnder n₁ b vl vw L M) (hn0 : n₀ ≤ W.heap.size) (h0 : J [] W) :
    CallsIn Fence.wide m Try.prog 27 #[.func (.yield l) #[] #[], .pointer (some ⟨p, 0, none⟩), .pointer (some ⟨p + 1, 0, none⟩)] W fun e W' => (∃ v, e = .returned v) ∧
      ((∃ ys, (ys.length = x.list.length - st ∧ FirstN x st ys) ∧ J ys W') ∨ (∃ pre, FirstN x st pre ∧ Jx pre W')) := by
  obtain ⟨Dl, cl, rfl, hcl⟩ := hL.hl.form
  have HST := Lib.hid hst
  have hst0 : (0 : Int) ≤ (st : Int) := by omega
  refine callsIn_of_wp Try.func27 rfl trivial ?_ rfl
  simp only [Try.ntmps27, List.size_toArray, List.length_cons, List.length_nil, Nat.reduceAdd, Nat.reduceSub, Array.replicate_succ, Array.replicate_zero, List.push_toArray, List.append_toArray, List.nil_append, List.cons_append]
  have HU : Hid (LUnder n₁ b (.slice Dl x.list.length cl) vw L M) := Lib.hid hu
  have hbn : b < n₀ := Nat.lt_of_lt_of_le (hu.s b (.inl rfl)) h01
  have hpA : ¬ mayN A n₀ p := fun e => e.elim (fun e => (hA p e).2 rfl) (fun e => by omega)
  clear hu
  gi_wp2
  clear hst
  gi_loopw [4] (fun i wr => ∃ pre : List Nq, (pre.length = 0 ∨ st + pre.length ≤ x.list.length) ∧ i = .int .i64 ((st + pre.length : Nat) : Int) ∧ FirstN x st pre ∧ J pre wr ∧ Turns (mayN A n₀) W wr) (fun i _ => x.list.length - (intOf i).toNat)
  case atStart => exact ⟨[], .inl rfl, rfl, FirstN.nil x st, h0, Turns.refl _ _⟩
  case round =>
    obtain ⟨pre, hpl, rfl, hF, hJs, hB⟩ := hrel
    have hLr := hL.far HU.out hB (fun g e => e.elim (fun e => (hA g e).1) (fun e => Nat.le_trans h01 e))
    have hsz := hB.size
    have e0 : wr.cell? ⟨p, 0, none⟩ = some (.pointer (some ⟨b, 0, none⟩)) := hB.cell hp0 hpA
    have c0 : wr.cell? ⟨b, 0, none⟩ = some (.slice Dl x.list.length cl) := hLr.cell 0
    obtain ⟨k, hk⟩ : ∃ k, st + pre.length = k := ⟨_, rfl⟩
    have HK := Lib.hid hk
    have HF := Lib.hid hF
    rw [hk] at hpl ⊢
    clear hF hk
    by_cases hlt : k < x.list.length
    · obtain ⟨q, hq⟩ : ∃ q, L[k]? = some q := ⟨_, List.getElem?_eq_getElem (by rw [hL.ll]; exact hlt)⟩
      have hqr : x.list[k]? = some q.r := by rw [← hL.lr, List.getElem?_map, hq]; rfl
      have hql := hfew q.r (List.mem_of_getElem? hqr)
      have hqc := (hLr.rl q (List.mem_of_getElem? hq)).1
      obtain ⟨g, off, rfl, q0, q1, q2, q3⟩ := get_q hLr.hl.cells hq
      have g3 : (0 : Int) ≤ (k : Int) := by omega
      have g4 : (k : Int) < (x.list.length : Int) := by omega
      have g5 : (k : Int) + 1 ≤ 9223372036854775807 := by omega
      have hpn2 : pre.length < x.list.length := by have := HK.out; omega
      have HQR := Lib.hid hqr
      clear hq hqr
      gi_wp2_with (refine ⟨trivial, ?_⟩; gi_at_call 22; refine (callsIn_wide.2 (ocopy_any q.r q.D _ q.c wr rfl (by omega) hqc)).mono ?_; rintro e w2 ⟨D2, cp2, rfl, hown2, hb2⟩; obtain ⟨fn, tmps, assign, body, hy, hRd⟩ := hY pre (k, ⟨q.r, D2, cp2⟩) w2 (hJ _ _ _ hJs hb2) ⟨HQR.out, row_weaken hown2 (by omega)⟩ hpn2; dsimp only [encN] at hy)
      refine hRd.mono ?_
      have hpush := HF.out.push (q := ⟨q.r, D2, cp2⟩) (by rw [HK.out]; exact HQR.out)
      rw [HK.out] at hpush
      have HPU := Lib.hid hpush
      have hw2 : Turns (mayN A n₀) wr w2 := Turns.of_below hb2
      clear hpush hy
      rintro e W3 (⟨rfl, hJ3, hk3⟩ | ⟨rfl, hJx3⟩)
      · gi_wp2
        go_roundw
        case rel => exact ⟨pre ++ [(k, ⟨q.r, D2, cp2⟩)], .inr (by rw [List.length_append, List.length_singleton]; have := HK.out; omega), congrArg (Value.int .i64) (by rw [List.length_append, List.length_singleton]; have := HK.out; omega), HPU.out, hJ3, (hB.trans hw2).trans hk3⟩
        case measure => simp [intOf]; omega
      · gi_wp2
        refine bodyPost_ret (results_none rfl _ _ _) rfl ?_
        exact ⟨⟨_, rfl⟩, .inr ⟨_, HPU.out, hJx3⟩⟩
    · gi_wp2
      go_end0
      exact ⟨⟨_, rfl⟩, .inl ⟨pre, ⟨by have := HK.out; omega, HF.out⟩, hJs⟩⟩
theorem from_hands (m : Nat) (hm : 1 ≤ m) (p n₀ n₁ : Nat) (A : Nat → Prop) (hA : ∀ g, A g → n₁ ≤ g ∧ g ≠ p) (h01 : n₁ ≤ n₀) (at' : Int) (st : Nat) (hst : (if at' < 0 then 0 else at') = (st : Int)) (B b : Nat) (vl vw : Value) (L M : List Q) (x : Lg) (hlen : x.list.length ≤ 200) (hfew : ∀ r ∈ x.list, r.vers.length ≤ 12)
    (w : World) (hp0 : w.cell? ⟨p, 0, none⟩ = some (.pointer (some ⟨b, 0, none⟩))) (hp1 : w.cell? ⟨p + 1, 0, none⟩ = some (.int .i64 at')) (hpn : p + 1 < n₀) (hL : LogAt w B b vl vw L M x) (hu : LUnder n₁ b vl vw L M) (hn0 : n₀ ≤ w.heap.size) :
    Hands Fence.wide m Try.prog 27 #[.pointer (some ⟨p, 0, none⟩), .pointer (some ⟨p + 1, 0, none⟩)] encN (OkN x n₀) (Turns (mayN A n₀)) (fun ys => ys.length = x.list.length - st ∧ FirstN x st ys) (FirstN x st) x.list.length w :=
  fun l J Jx W hW hJ _ hY h0 => from1_in m hm l p n₀ n₁ A hA h01 at' st hst B b vl vw L M x hlen hfew J Jx hJ hY W (cell_on hW hp0) (cell_on hW hp1) hpn (hL.on hW) hu (Nat.le_trans hn0 hW.size) h0
set_option maxHeartbeats 1000000 in
theorem from1_nil (m : Nat) (hm : 1 ≤ m) (l p : Nat) (W : World) (hp0 : W.cell? ⟨p, 0, none⟩ = some (.pointer none)) :
    CallsIn Fence.wide m Try.prog 27 #[.func (.yield l) #[] #[], .pointer (some ⟨p, 0, none⟩), .pointer (some ⟨p + 1, 0, none⟩)] W fun e W' => (∃ v, e = .returned v) ∧ W = W' := by
  refine callsIn_of_wp Try.func27 rfl trivial ?_ rfl
  simp only [Try.ntmps27, List.size_toArray, List.length_cons, List.length_nil, Nat.reduceAdd, Nat.reduceSub, Array.replicate_succ, Array.replicate_zero, List.push_toArray, List.append_toArray, List.nil_append, List.cons_append]
  gi_wp2
  refine bodyPost_ret (results_none rfl _ _ _) rfl ?_
  exact ⟨⟨_, rfl⟩, rfl⟩
theorem from_nil (m : Nat) (hm : 1 ≤ m) (p n₀ : Nat) (A : Nat → Prop) (w : World) (hp0 : w.cell? ⟨p, 0, none⟩ = some (.pointer none)) :
    Hands Fence.wide m Try.prog 27 #[.pointer (some ⟨p, 0, none⟩), .pointer (some ⟨p + 1, 0, none⟩)] encN (fun (y : Nq) (W : World) => False) (Turns (mayN A n₀)) (fun ys => ys = []) (fun _ => True) 0 w :=
  fun l J Jx W hW hJ _ hY h0 => (from1_nil m hm l p W (cell_on hW hp0)).mono fun e W' ⟨hv, hw⟩ => ⟨hv, .inl ⟨[], rfl, hw ▸ h0⟩⟩
end Go.Proofs.Ytggbdjdfejcpjaa
