/- What turns alone: blocks that may turn; deletes in, and stores into, a map of spots whatever it holds. -/
import Derived.Test.YtlacgdnidilndaaGreatDoorDel
import Derived.Test.YtlacgdnidilndaaGreatDoorAlone
import Derived.Test.YtlacgdnidilndaaGreatDoorOwns
import Derived.Test.YtlacgdnidilndaaGreatDoorWith
namespace Go.Proofs.YtlacgdnidilndaaGreatDoor
open Go.RowKit
open Go.Proofs (Tryz.prog)

structure Only (S : Nat → Prop) (w w' : World) : Prop where
  os : w'.os = w.os
  tape : w'.tape = w.tape
  output : w'.output = w.output
  size : w.heap.size ≤ w'.heap.size
  block : ∀ b, b < w.heap.size → ¬ S b → w'.heap[b]? = w.heap[b]?
theorem Only.refl (S : Nat → Prop) (w : World) : Only S w w := ⟨rfl, rfl, rfl, Nat.le_refl _, fun _ _ _ => rfl⟩
theorem Only.trans {S : Nat → Prop} {a b c : World} (h : Only S a b) (k : Only S b c) : Only S a c :=
  ⟨k.os.trans h.os, k.tape.trans h.tape, k.output.trans h.output, Nat.le_trans h.size k.size, fun i hi hs => (k.block i (Nat.lt_of_lt_of_le hi h.size) hs).trans (h.block i hi hs)⟩
theorem Only.mono {S T : Nat → Prop} {a b : World} (h : Only S a b) (hST : ∀ x, x < a.heap.size → S x → T x) : Only T a b :=
  ⟨h.os, h.tape, h.output, h.size, fun i hi hs => h.block i hi fun e => hs (hST i hi e)⟩
theorem Only.of_below {S : Nat → Prop} {w w' : World} (h : Below w.heap.size w w') : Only S w w' := ⟨h.os, h.tape, h.output, h.size, fun i hi _ => h.block i hi⟩
theorem Only.drew {S : Nat → Prop} {a w : World} (h : Only S a w) : Only S a w.drew := ⟨h.os, h.tape, h.output, h.size, h.block⟩
theorem Only.setCell {S : Nat → Prop} {a w : World} (h : Only S a w) (p : Addr) (hp : S p.block) (u : Value) : Only S a (w.setCell p u) := by
  have e : (w.setCell p u).heap.size = w.heap.size := size_set _ _ _
  refine ⟨h.os, h.tape, h.output, Nat.le_trans h.size (Nat.le_of_eq e.symm), fun i hi hs => ?_⟩
  exact (Below.heap_setCell w p u i (fun e => hs (e ▸ hp))).trans (h.block i hi hs)
theorem Only.setCells {S : Nat → Prop} {a : World} (g : Nat) (hg : S g) : ∀ (vs : List Value) (o : Nat) {w : World}, Only S a w → Only S a (w.setCells g o vs)
  | [], _, _, h => h
  | v :: vs, o, _, h => Only.setCells g hg vs (o + 1) (h.setCell ⟨g, o, none⟩ hg v)
theorem Only.setObj {S : Nat → Prop} {a w : World} (h : Only S a w) (b : Nat) (hb : S b) (o : Obj) : Only S a { w with heap := w.heap.setIfInBounds b o } :=
  ⟨h.os, h.tape, h.output, by simpa using h.size, fun i hi hs => by
    have : b ≠ i := fun e => hs (e ▸ hb)
    refine Eq.trans ?_ (h.block i hi hs)
    simp [this]⟩
theorem Only.at {S : Nat → Prop} {a b : World} (h : Only S a b) {x : Nat} {o : Obj} (hx : a.heap[x]? = some o) (hs : ¬ S x) : b.heap[x]? = some o := (h.block x (lt_of_heap hx) hs).trans hx
theorem Only.cell {S : Nat → Prop} {a b : World} (h : Only S a b) {p : Addr} {v : Value} (hx : a.cell? p = some v) (hs : ¬ S p.block) : b.cell? p = some v :=
  (World.cell?_of_block (h.block p.block (World.block_lt_of_cell? _ _ hx) hs)).trans hx

/-- A map whose keys are texts. -/
def StrMap (w : World) (b : Nat) : Prop := ∃ es clk, w.heap[b]? = some (.map es clk) ∧ ∀ e ∈ es.toList, ∃ k, e.key = .string k
theorem findNow_str (k : ByteArray) : ∀ (es : List MapEntry) (i : Nat), (∀ e ∈ es, ∃ k, e.key = .string k) →
    Instr.findNow .string (.string k) es i = some none ∨ ∃ j e v, Instr.findNow .string (.string k) es i = some (some (i + j, v)) ∧ es[j]? = some e ∧ e.key = .string k
  | [], i, _ => .inl rfl
  | e :: es, i, h => by
    obtain ⟨x, hx⟩ := h e (by simp)
    unfold Instr.findNow
    rw [hx]
    simp only [Instr.sameNow, beq_bytes]
    by_cases hk : k = x
    · subst hk
      exact .inr ⟨0, e, e.val, by simp, rfl, hx⟩
    · rw [decide_eq_false hk]
      rcases findNow_str k es (i + 1) (fun e' h' => h e' (by simp [h'])) with h1 | ⟨j, e', v, h1, h2, h3⟩
      · exact .inl h1
      · exact .inr ⟨j + 1, e', v, by rw [h1]; simp; omega, by simpa using h2, h3⟩
theorem run_findKey_str {w : World} {k : ByteArray} {es : List MapEntry} {r : Option (Nat × Value)} (h : Instr.findNow .string (.string k) es 0 = some r) : (Instr.findKey 62 (.string k) es).run Tryz.prog w = .ok r w := by
  simp only [Instr.findKey, Sem.run_bind, run_underlying Tryz.underlying62, Result.andThen, h, Sem.run_pure]
theorem run_del_str {w : World} {b : Nat} (h : StrMap w b) (k : ByteArray) :
    ∃ w1, (∀ ty, (Builtin.delete_ #[92, 62] ty #[.map (some b), .string k]).run Tryz.prog w = .ok (.tuple #[]) w1) ∧ StrMap w1 b ∧ Only (· = b) w w1 := by
  obtain ⟨es, clk, hb, hk⟩ := h
  have hlt : b < w.heap.size := (Array.getElem?_eq_some_iff.1 hb).1
  rcases findNow_str k es.toList 0 hk with h1 | ⟨j, e, v, h1, h2, h3⟩
  · refine ⟨{ w with heap := w.heap.setIfInBounds b (.map es clk) }, fun ty => ?_, ⟨es, clk, Array.getElem?_setIfInBounds_self_of_lt hlt, hk⟩, Only.setObj (S := (· = b)) (Only.refl _ w) b rfl _⟩
    simp [Builtin.delete_, run_underlying Tryz.underlying92, MapKept.run_getObj_map hb, check_string, run_findKey_str h1, MapKept.run_setObj_map _ hb, Result.andThen]
  · refine ⟨{ w with heap := w.heap.setIfInBounds b (.map (es.eraseIdxIfInBounds (0 + j)) clk) }, fun ty => ?_, ⟨_, clk, Array.getElem?_setIfInBounds_self_of_lt hlt, fun e he => hk e ?_⟩, Only.setObj (S := (· = b)) (Only.refl _ w) b rfl _⟩
    · simp [Builtin.delete_, run_underlying Tryz.underlying92, MapKept.run_getObj_map hb, check_string, run_findKey_str h1, MapKept.run_setObj_map _ hb, Result.andThen]
    · unfold Array.eraseIdxIfInBounds at he
      split at he
      · rw [Array.toList_eraseIdx] at he
        exact List.mem_of_mem_eraseIdx he
      · exact he
theorem keeps_str (k : ByteArray) (w : World) : (Instr.keyThatStays (.string k) (.string k)).run Tryz.prog w = .ok (.string k) w := by
  have : Instr.sameBits 10000 (.string k) (.string k) = true := by
    unfold Instr.sameBits
    rw [beq_bytes]; simp
  simp [Instr.keyThatStays, this]
theorem run_upd_str {w : World} {b : Nat} (h : StrMap w b) (k : ByteArray) (v : Value) :
    ∃ w1, (Instr.mapUpdate 92 (.map (some b)) (.string k) v).run Tryz.prog w = .ok () w1 ∧ StrMap w1 b ∧ Only (· = b) w w1 := by
  obtain ⟨es, clk, hb, hk⟩ := h
  have hlt : b < w.heap.size := (Array.getElem?_eq_some_iff.1 hb).1
  rcases findNow_str k es.toList 0 hk with h1 | ⟨j, e, u, h1, h2, h3⟩
  · refine ⟨{ w with heap := w.heap.setIfInBounds b (.map (es.push { key := .string k, val := v, born := clk }) (clk + 1)) }, ?_, ⟨_, _, Array.getElem?_setIfInBounds_self_of_lt hlt, fun e he => ?_⟩, Only.setObj (S := (· = b)) (Only.refl _ w) b rfl _⟩
    · simp [Instr.mapUpdate, run_underlying Tryz.underlying92, MapKept.run_getObj_map hb, check_string, run_findKey_str h1, MapKept.run_setObj_map _ hb, Result.andThen]
    · rw [Array.toList_push] at he
      rcases List.mem_append.1 he with he | he
      · exact hk e he
      · have : e = { key := .string k, val := v, born := clk } := by simpa using he
        exact ⟨k, by rw [this]⟩
  · have hj : es[j]? = some e := by simpa using h2
    refine ⟨{ w with heap := w.heap.setIfInBounds b (.map (es.modify j fun e => { e with key := .string k, val := v }) clk) }, ?_, ⟨_, _, Array.getElem?_setIfInBounds_self_of_lt hlt, fun x hx => ?_⟩, Only.setObj (S := (· = b)) (Only.refl _ w) b rfl _⟩
    · simp [Instr.mapUpdate, run_underlying Tryz.underlying92, MapKept.run_getObj_map hb, check_string, run_findKey_str h1, hj, h3, keeps_str, MapKept.run_setObj_map _ hb, Result.andThen]
    · obtain ⟨i, hi⟩ := List.getElem?_of_mem hx
      rw [Array.getElem?_toList, Array.getElem?_modify] at hi
      split at hi
      · cases h5 : es[i]? with
        | none => rw [h5] at hi; simp at hi
        | some y => rw [h5] at hi; simp at hi; exact ⟨k, by rw [← hi]⟩
      · exact hk x (List.mem_of_getElem? (by rw [Array.getElem?_toList]; exact hi))
end Go.Proofs.YtlacgdnidilndaaGreatDoor
