/-
  A store into a map that the call made, when the statement looks the entry up first and stores into it at its end. Conditions: the map's keys are integers.
-/
import Derived.Test.YtjnbdkkefdfiaaaMapO
import Derived.WideKeyEntry
import Derived.RegionTactic
namespace Go.Proofs.Ytjnbdkkefdfiaaa
open Go.RowKit Go.Maps Go.ChangeMaps Go.MapKept Go.WideElems
set_option linter.unusedVariables false

section
variable {H : Type} {P : Program} {w : World} {k e t : TypeId} {R : Value → Option (DataW H × List MemPlace)} {b n : Nat} {D : DataW H}
/-- the entry of the key is there, found by its stamp; a store into it lays the element at the key. -/
def Found (P : Program) (t k : TypeId) (R : Value → Option (DataW H × List MemPlace)) (b n : Nat) (D : DataW H) (kl : Lit) (st : Nat) (w1 : World) : Prop :=
  ∀ (w2 : World) (val : Value) (d : DataW H) (ps : List MemPlace), w2.heap[b]? = w1.heap[b]? → R val = some (d, ps) → ∃ w3, (Instr.entryStore t (.map (some b)) (.int .i64 st) val).run P w2 = .ok () w3 ∧ w3.ownsMap P k R b (n + 1) (D.put kl d) ∧ w2.mapTurned w3 b
theorem own_entry (hown : w.ownsMap P k R b n D) (K : Keyed P k) (ht : P.underlying t = some (.map k e)) {z : Value} (hz : ∀ u : World, (zeroValue e).run P u = .ok z u) {key : Value} {kl : Lit} (hkey : keyOf P k key = some kl) (hn : n < maxLen) :
    ∃ v0 st w1, (Instr.mapEntry t (.map (some b)) key).run P w = .ok (.tuple #[v0, .int .i64 (st : Nat)]) w1 ∧ Found P t k R b n D kl st w1 ∧ w.mapTurned w1 b := by
  have hst := hown
  obtain ⟨es, clock, hb, F, hs, hD⟩ := hown
  obtain ⟨s1, s2, _⟩ := F.stamped
  -- what a plain store comes to
  have up : ∀ val d ps, R val = some (d, ps) → ∃ es' clock', (Instr.mapUpdate t (.map (some b)) key val).run P w = .ok () (setBlock w b (.map es' clock')) ∧ (setBlock w b (.map es' clock')).ownsMap P k R b (n + 1) (D.put kl d) := by
    intro val d ps hv
    obtain ⟨w', hrun, ho, es0, clock0, es', clock', _, rfl⟩ := hst.store K ht hn hkey hv
    exact ⟨es', clock', hrun, ho⟩
  have fin : ∀ (w2 : World) (es1 : Array MapEntry) (clock1 : Nat) (es' : Array MapEntry) (clock' : Nat) (d : DataW H), w2.heap[b]? = some (.map es1 clock1) → (setBlock w b (.map es' clock')).ownsMap P k R b (n + 1) (D.put kl d) →
      (setBlock w2 b (.map es' clock')).ownsMap P k R b (n + 1) (D.put kl d) ∧ w2.mapTurned (setBlock w2 b (.map es' clock')) b := by
    intro w2 es1 clock1 es' clock' d h2 ho
    obtain ⟨es3, clock3, h3, r⟩ := ho
    rw [heap_setBlock_same hb] at h3
    exact ⟨⟨es3, clock3, (heap_setBlock_same h2 _).trans h3, r⟩, es1, clock1, es', clock', h2, rfl⟩
  rcases K.find w hkey es.toList F.keys with ⟨h1, h2⟩ | ⟨j, e0, h1, h2, h3⟩
  · refine ⟨z, clock, setBlock w b (.map (es.push ⟨key, z, clock⟩) (clock + 1)), ?_, ?_, es, clock, _, _, hb, rfl⟩
    · simp [Instr.mapEntry, run_underlying ht, MapKept.run_getObj_map hb, K.check w false hkey, h1, hz, MapKept.run_setObj_map _ hb, Result.andThen, setBlock, goInt]
    · intro w2 val d ps hw2 hv
      rw [heap_setBlock_same hb] at hw2
      obtain ⟨es', clock', hrun, ho⟩ := up val d ps hv
      have hup : (Instr.mapUpdate t (.map (some b)) key val).run P w = .ok () (setBlock w b (.map (es.push ⟨key, val, clock⟩) (clock + 1))) := by
        simp [Instr.mapUpdate, run_underlying ht, MapKept.run_getObj_map hb, K.check w false hkey, h1, MapKept.run_setObj_map _ hb, Result.andThen, setBlock]
      rw [hup] at hrun
      injection hrun with _ hrun
      rw [← hrun] at ho
      refine ⟨setBlock w2 b (.map (es.push ⟨key, val, clock⟩) (clock + 1)), ?_, fin w2 _ _ _ _ d hw2 ho⟩
      have hidx : (es.push ⟨key, z, clock⟩).findIdx? (fun e => ((e.born : Nat) : Int) == ((clock : Nat) : Int)) = some es.size := by
        rw [findIdx_arr]
        have := findIdx_born (l := (es.push ⟨key, z, clock⟩).toList) (j := es.size) (e0 := ⟨key, z, clock⟩) (by
          simp only [Array.toList_push, List.map_append, List.map_cons, List.map_nil]
          refine List.nodup_append.2 ⟨s2, by simp, fun a ha c hc e1 => ?_⟩
          simp only [List.mem_singleton] at hc
          obtain ⟨x, hx, rfl⟩ := List.mem_map.1 ha
          have := s1 x hx
          omega) (by simp)
        exact this
      have hmod : (es.push ⟨key, z, clock⟩).modify es.size (fun e => { e with val := val }) = es.push ⟨key, val, clock⟩ := by
        apply Array.ext'
        rw [Array.toList_modify, Array.toList_push, Array.toList_push, ← Array.length_toList, modify_last]
      simp [Instr.entryStore, MapKept.run_getObj_map hw2, asInt, asIntOf, hidx, hmod, MapKept.run_setObj_map _ hw2, Result.andThen, setBlock]
  · have hj : es[j]? = some e0 := by simpa using h2
    have hsame : es.modify j (fun e => { e with key := key }) = es := by
      apply Array.ext'
      rw [Array.toList_modify, modify_eq_set _ _ _ _ h2]
      have : ({ e0 with key := key } : MapEntry) = e0 := by rw [← h3]
      rw [this]
      exact set_self _ _ _ h2
    refine ⟨e0.val, e0.born, setBlock w b (.map es clock), ?_, ?_, es, clock, _, _, hb, rfl⟩
    · simp [Instr.mapEntry, run_underlying ht, MapKept.run_getObj_map hb, K.check w false hkey, h1, hj, h3, K.stays w hkey, hsame, MapKept.run_setObj_map _ hb, Result.andThen, setBlock, goInt]
    · intro w2 val d ps hw2 hv
      rw [heap_setBlock_same hb] at hw2
      obtain ⟨es', clock', hrun, ho⟩ := up val d ps hv
      have hup : (Instr.mapUpdate t (.map (some b)) key val).run P w = .ok () (setBlock w b (.map (es.modify j (fun e' => { e' with key := key, val := val })) clock)) := by
        simp [Instr.mapUpdate, run_underlying ht, MapKept.run_getObj_map hb, K.check w false hkey, h1, hj, h3, K.stays w hkey, MapKept.run_setObj_map _ hb, Result.andThen, setBlock]
      rw [hup] at hrun
      injection hrun with _ hrun
      rw [← hrun] at ho
      refine ⟨setBlock w2 b (.map (es.modify j (fun e' => { e' with key := key, val := val })) clock), ?_, fin w2 _ _ _ _ d hw2 ho⟩
      have hidx : es.findIdx? (fun e => ((e.born : Nat) : Int) == ((e0.born : Nat) : Int)) = some j := by
        rw [findIdx_arr]
        exact findIdx_born s2 h2
      have hmod : es.modify j (fun e => { e with val := val }) = es.modify j (fun e' => { e' with key := key, val := val }) := by
        apply Array.ext'
        rw [Array.toList_modify, Array.toList_modify, modify_eq_set _ _ _ _ h2, modify_eq_set _ _ _ _ h2, ← h3]
      simp [Instr.entryStore, MapKept.run_getObj_map hw2, asInt, asIntOf, hidx, hmod, MapKept.run_setObj_map _ hw2, Result.andThen, setBlock]
end
section
variable {H : Type} {P : Program} (w : World) {ops : Array Oper} {rest : List Oper} {o : Oper} {a : Act} {Q : Exit → Act → World → Prop}
theorem wpList_mapEntry_own (hg : o.guard = none) (m x : Operand) (t : TypeId) (hop : o.op = Op.mapEntry t m x)
    (k e : TypeId) (K : Keyed P k) (ht : P.underlying t = some (.map k e)) (R : Value → Option (DataW H × List MemPlace)) {z : Value} (hz : ∀ u : World, (zeroValue e).run P u = .ok z u) (b n : Nat) (D : DataW H)
    (hm : a.eval m = .map (some b)) (hown : w.ownsMap P k R b n D) (hn : n < maxLen) (key : Value) (kl : Lit) (hx : a.eval x = key) (hkey : keyOf P k key = some kl)
    (hK : ∀ v0 st w1, Found P t k R b n D kl st w1 → w.mapTurned w1 b → wpList P ops Q rest (a.put o.dst (.tuple #[v0, .int .i64 (st : Nat)])) w1) :
    wpList P ops Q (o :: rest) a w := by
  refine wpList_plain hg fun K' hK' => ?_
  obtain ⟨v0, st, w1, hrun, r1, r2⟩ := own_entry hown K ht hz hkey hn
  unfold Oper.wp
  simp [execOp, hop, hm, hx, hrun, Result.andThen]
  exact hK' _ _ (hK v0 st w1 r1 r2)
theorem wpList_entryStore_own (hg : o.guard = none) (m s x : Operand) (t : TypeId) (hop : o.op = Op.entryStore t m s x)
    (k : TypeId) (R : Value → Option (DataW H × List MemPlace)) (b n : Nat) (D : DataW H) (kl : Lit) (st : Nat) (w1 : World) (hf : Found P t k R b n D kl st w1) (hb : w.heap[b]? = w1.heap[b]?)
    (hm : a.eval m = .map (some b)) (hs : a.eval s = .int .i64 (st : Nat)) (val : Value) (hx : a.eval x = val) (d : DataW H) (ps : List MemPlace) (hval : R val = some (d, ps))
    (hK : ∀ w3, w3.ownsMap P k R b (n + 1) (D.put kl d) → w.mapTurned w3 b → wpList P ops Q rest (a.put o.dst undef) w3) :
    wpList P ops Q (o :: rest) a w := by
  refine wpList_plain hg fun K' hK' => ?_
  obtain ⟨w3, hrun, r1, r2⟩ := hf w val d ps hb hval
  unfold Oper.wp
  simp [execOp, hop, hm, hs, hx, hrun, Result.andThen]
  exact hK' _ _ (hK w3 r1 r2)
end
end Go.Proofs.Ytjnbdkkefdfiaaa
