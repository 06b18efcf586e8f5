/- Look-ups in, and stores into, the maps of a shape, block by block. -/
import Derived.Test.YtlacgdnidilndaaGreatDoorState
import Derived.Maps.Own
import Derived.Laws.StructEq
namespace Go.Proofs.YtlacgdnidilndaaGreatDoor
open Go.RowKit
open Go.Proofs (Tryz.prog)

theorem beq_bytes (a b : ByteArray) : (a == b) = decide (a = b) := by
  by_cases h : a = b
  · subst h; simp only [decide_true]
    show (a.data == a.data) = true
    simp
  · rw [decide_eq_false h]
    cases a; cases b
    show ((_ : Array UInt8) == _) = false
    simp at h
    simpa using h
/-- The place of a key among keys. -/
def spotOf (k : ByteArray) : List ByteArray → Nat → Option Nat
  | [], _ => none
  | x :: l, i => if k = x then some i else spotOf k l (i + 1)
theorem spotOf_ge (k : ByteArray) : ∀ (ks : List ByteArray) (j p : Nat), spotOf k ks j = some p → j ≤ p
  | x :: l, j, p, h => by
    unfold spotOf at h
    split at h
    · cases h; exact Nat.le_refl _
    · have := spotOf_ge k l (j + 1) p h; omega
theorem findNow_spots (k : ByteArray) : ∀ (es : List MapEntry) (ks : List ByteArray) (j i : Nat), es.map (fun e => (e.key, e.val)) = (ks.zipIdx j).map (fun x => (Value.string x.1, Value.int .i64 (x.2 : Nat))) →
    Instr.findNow .string (.string k) es i = some ((spotOf k ks j).map fun p => (p - j + i, Value.int .i64 (p : Nat)))
  | [], [], j, i, _ => rfl
  | e :: es, x :: ks, j, i, h => by
    rw [List.zipIdx_cons, List.map_cons, List.map_cons] at h
    injection h with h1 h2
    injection h1 with h3 h4
    unfold Instr.findNow
    rw [h3]
    simp only [Instr.sameNow, beq_bytes]
    by_cases hk : k = x
    · subst hk
      simp [spotOf, h4]
    · rw [decide_eq_false hk]
      simp only [spotOf, if_neg hk]
      rw [findNow_spots k es ks (j + 1) (i + 1) h2]
      cases hp : spotOf k ks (j + 1) with
      | none => rfl
      | some p =>
        have := spotOf_ge k ks (j + 1) p hp
        have e : p - (j + 1) + (i + 1) = p - j + i := by omega
        simp only [Option.map_some, e]
  | [], x :: ks, j, i, h => by simp at h
  | e :: es, [], j, i, h => by simp at h
theorem spotOf_none (k : ByteArray) : ∀ (ks : List ByteArray) (j : Nat), k ∉ ks → spotOf k ks j = none
  | [], j, _ => rfl
  | x :: ks, j, h => by
    simp only [List.mem_cons, not_or] at h
    simp only [spotOf, if_neg h.1]
    exact spotOf_none k ks (j + 1) h.2
theorem spotOf_some (k : ByteArray) : ∀ (ks : List ByteArray) (j : Nat), k ∈ ks → ∃ p, spotOf k ks j = some (j + p) ∧ ks[p]? = some k
  | x :: ks, j, h => by
    by_cases hk : k = x
    · subst hk; exact ⟨0, by simp [spotOf], rfl⟩
    · obtain ⟨p, hp, hg⟩ := spotOf_some k ks (j + 1) (by simpa [hk] using h)
      exact ⟨p + 1, by simp only [spotOf, if_neg hk, hp]; congr 1; omega, by simpa using hg⟩

theorem check_string (w : World) (em : Bool) (k : ByteArray) : (Instr.checkKey em 10000 62 (.string k)).run Tryz.prog w = .ok () w := by
  have h : ∀ n : Nat, (Instr.checkKey em (n + 1) 62 (.string k)).run Tryz.prog w = .ok () w := fun n => by
    simp [Instr.checkKey, run_underlying Tryz.underlying62]
  exact h 9999
/-- THE LOOK-UP IN A SHAPE's MAP OF SPOTS. -/
theorem run_spots {w : World} {b : Nat} {ks : List ByteArray} (h : SpotsOK w b ks) (k : ByteArray) :
    (Instr.lookup 92 (.map (some b)) (.string k) true).run Tryz.prog w = .ok (match spotOf k ks 0 with | some p => .tuple #[.int .i64 (p : Nat), .bool true] | none => .tuple #[.int .i64 0, .bool false]) w := by
  obtain ⟨es, clk, hb, he⟩ := h
  have hf := findNow_spots k es.toList ks 0 0 he
  have hk : (Instr.findKey 62 (.string k) es.toList).run Tryz.prog w = .ok ((spotOf k ks 0).map fun p => (p - 0 + 0, Value.int .i64 (p : Nat))) w := by
    simp only [Instr.findKey, Sem.run_bind, run_underlying Tryz.underlying62, Result.andThen, hf, Sem.run_pure]
  have hz := Tryz.zeroValue3 w
  cases hs : spotOf k ks 0 with
  | none =>
    rw [hs] at hk
    simp [Instr.lookup, run_underlying Tryz.underlying92, MapKept.run_getObj_map hb, check_string, hk, hz, Result.andThen]
  | some p =>
    rw [hs] at hk
    simp [Instr.lookup, run_underlying Tryz.underlying92, MapKept.run_getObj_map hb, check_string, hk, Result.andThen]

/-- Slot: where a key stands in a shape. -/
def slotOf (k : ByteArray) (ks : List ByteArray) : Int := match spotOf k ks 0 with | some p => (p : Int) | none => -1
set_option maxHeartbeats 1000000 in
theorem slot_any (s bat : Nat) (ks : List ByteArray) (k : ByteArray) (w : World) (h1 : w.cell? ⟨s, 1, none⟩ = some (.map (some bat))) (h : SpotsOK w bat ks) :
    Calls Tryz.prog 38 #[ptr s, .string k] w fun e w' => e = .returned (.int .i64 (slotOf k ks)) ∧ w = w' := by
  have hr := run_spots h k
  have HS : slotOf k ks = match spotOf k ks 0 with | some p => (p : Int) | none => -1 := rfl
  unfold ptr
  cases hs : spotOf k ks 0 with
  | none =>
    rw [hs] at hr HS
    simp only at hr HS
    have H := Lib.hid HS
    clear HS hs h
    go_enter Tryz.func38, Tryz.ntmps38
    go_wp2
    go_ret
    exact ⟨ret_int H.out.symm, rfl⟩
  | some p =>
    rw [hs] at hr HS
    simp only at hr HS
    have H := Lib.hid HS
    clear HS hs h
    go_enter Tryz.func38, Tryz.ntmps38
    go_wp2
    go_ret
    exact ⟨ret_int H.out.symm, rfl⟩

/-- THE STORE OF A NEW KEY INTO A SHAPE's MAP OF SPOTS. -/
theorem run_spots_new {w : World} {b : Nat} {ks : List ByteArray} (h : SpotsOK w b ks) (k : ByteArray) (hk : k ∉ ks) :
    ∃ o, (Instr.mapUpdate 92 (.map (some b)) (.string k) (.int .i64 (ks.length : Nat))).run Tryz.prog w = .ok () { w with heap := w.heap.setIfInBounds b o } ∧ SpotsOK { w with heap := w.heap.setIfInBounds b o } b (ks ++ [k]) := by
  obtain ⟨es, clk, hb, he⟩ := h
  have hlt : b < w.heap.size := (Array.getElem?_eq_some_iff.1 hb).1
  have hf := findNow_spots k es.toList ks 0 0 he
  rw [spotOf_none k ks 0 hk] at hf
  have hfk : (Instr.findKey 62 (.string k) es.toList).run Tryz.prog w = .ok none w := by
    simp only [Instr.findKey, Sem.run_bind, run_underlying Tryz.underlying62, Result.andThen, hf, Sem.run_pure, Option.map_none]
  refine ⟨.map (es.push { key := .string k, val := .int .i64 (ks.length : Nat), born := clk }) (clk + 1), ?_, ?_⟩
  · simp [Instr.mapUpdate, run_underlying Tryz.underlying92, MapKept.run_getObj_map hb, check_string, hfk, MapKept.run_setObj_map _ hb, Result.andThen]
  · refine ⟨_, _, Array.getElem?_setIfInBounds_self_of_lt hlt, ?_⟩
    rw [Array.toList_push, List.map_append, he, List.zipIdx_append, List.map_append]
    simp

theorem fields104 : Tryz.prog.underlying 104 = some (.struct (Tryz.prog.fieldsOf 104)) := by kernel_rfl
theorem held104 : Tryz.prog.stoodInHeld 104 = false := by kernel_rfl
theorem eq104in (d : Nat) (k x : ByteArray) (w : World) : (Op.equalIn (d + 1 + 1) 104 (.agg #[.string k, .int .u8 7]) (.agg #[.string x, .int .u8 7])).run Tryz.prog w = .ok (decide (k = x)) w := by
  rw [run_equalIn_struct w (d + 1) 104 _ _ fields104 held104]
  have hb : (k.toList == x.toList) = decide (k = x) := by rw [← beq_toListBytes, beq_bytes]
  have h1 := run_equalIn_string (P := Tryz.prog) w d 62 k x Tryz.underlying62
  have h2 := run_equalIn_int (P := Tryz.prog) w d 5 .u8 .u8 7 7 Tryz.underlying5
  rw [hb] at h1
  simp only [Program.fieldsOf, Tryz.underlying104]
  by_cases hk : k = x
  · simp [Op.eqFields, part, h2, hk, Result.andThen, go_sem]
  · simp [Op.eqFields, part, h1, hk, Result.andThen, go_sem]
theorem eq104 (k x : ByteArray) (w : World) : (Op.equal 104 (.agg #[.string k, .int .u8 7]) (.agg #[.string x, .int .u8 7])).run Tryz.prog w = .ok (decide (k = x)) w := eq104in 9998 k x w

def entK (k : ByteArray) : Value := .agg #[.string k, .int .u8 7]
theorem entK_inj {a b : ByteArray} (h : entK a = entK b) : a = b := by
  unfold entK at h
  injection h with h1
  have h2 := congrArg (fun c : Array Value => c[0]?) h1
  simpa using h2
/-- The look for an entry among entries. -/
theorem asking (k : ByteArray) (w : World) : ∀ (es : List MapEntry) (i : Nat), (∀ e ∈ es, ∃ x, e.key = entK x) →
    ((Instr.findAsking 104 (entK k) es i).run Tryz.prog w = .ok none w ∧ ∀ e ∈ es, e.key ≠ entK k) ∨
    ∃ j e, (Instr.findAsking 104 (entK k) es i).run Tryz.prog w = .ok (some (i + j, e.val)) w ∧ es[j]? = some e ∧ e.key = entK k
  | [], i, _ => .inl ⟨by simp [Instr.findAsking], fun e h => by simp at h⟩
  | e :: es, i, h => by
    obtain ⟨x, hx⟩ := h e (by simp)
    have hq := eq104 k x w
    by_cases hk : k = x
    · right
      refine ⟨0, e, ?_, rfl, by rw [hx, hk]⟩
      unfold Instr.findAsking
      simp only [Sem.run_bind, hx]
      unfold entK
      rw [hq, hk]
      simp [Result.andThen]
    · rcases asking k w es (i + 1) (fun e' h' => h e' (by simp [h'])) with ⟨h1, h2⟩ | ⟨j, e', h1, h2, h3⟩
      · left
        refine ⟨?_, fun e' h' => ?_⟩
        · unfold Instr.findAsking
          simp only [Sem.run_bind, hx]
          unfold entK at *
          rw [hq, decide_eq_false hk]
          simpa [Result.andThen] using h1
        · rcases List.mem_cons.1 h' with rfl | h'
          · rw [hx]; intro hh; exact hk (entK_inj hh).symm
          · exact h2 e' h'
      · right
        refine ⟨j + 1, e', ?_, by simpa using h2, h3⟩
        unfold Instr.findAsking
        simp only [Sem.run_bind, hx]
        unfold entK at *
        rw [hq, decide_eq_false hk]
        have e2 : i + 1 + j = i + (j + 1) := by omega
        rw [e2] at h1
        simpa [Result.andThen] using h1

theorem find104 (k : ByteArray) (w : World) (es : List MapEntry) (h : ∀ e ∈ es, ∃ x, e.key = entK x) :
    ((Instr.findKey 104 (entK k) es).run Tryz.prog w = .ok none w ∧ ∀ e ∈ es, e.key ≠ entK k) ∨
    ∃ j e, (Instr.findKey 104 (entK k) es).run Tryz.prog w = .ok (some (j, e.val)) w ∧ es[j]? = some e ∧ e.key = entK k := by
  match es, h with
  | [], _ =>
    left
    refine ⟨?_, fun e h => by simp at h⟩
    simp only [Instr.findKey, Sem.run_bind, run_underlying fields104, Result.andThen, Instr.findNow, Sem.run_pure]
  | e :: es, h =>
    obtain ⟨x, hx⟩ := h e (by simp)
    have hn : Instr.findNow (.struct (Tryz.prog.fieldsOf 104)) (entK k) (e :: es) 0 = none := by
      unfold Instr.findNow
      rw [hx]
      rfl
    have hrun : (Instr.findKey 104 (entK k) (e :: es)).run Tryz.prog w = (Instr.findAsking 104 (entK k) (e :: es)).run Tryz.prog w := by
      simp only [Instr.findKey, Sem.run_bind, run_underlying fields104, Result.andThen, hn]
    rw [hrun]
    rcases asking k w (e :: es) 0 h with h1 | ⟨j, e', h1, h2⟩
    · exact .inl h1
    · exact .inr ⟨j, e', by rw [Nat.zero_add] at h1; exact h1, h2⟩

theorem check104 (w : World) (em : Bool) (k : ByteArray) : (Instr.checkKey em 10000 104 (entK k)).run Tryz.prog w = .ok () w := by
  have h : ∀ n : Nat, (Instr.checkKey em (n + 1 + 1) 104 (entK k)).run Tryz.prog w = .ok () w := fun n => by
    have h62 : (Instr.checkKey em (n + 1) 62 (.string k)).run Tryz.prog w = .ok () w := by simp [Instr.checkKey, run_underlying Tryz.underlying62]
    have h5 : (Instr.checkKey em (n + 1) 5 (.int .u8 7)).run Tryz.prog w = .ok () w := by simp [Instr.checkKey, run_underlying Tryz.underlying5]
    unfold entK
    unfold Instr.checkKey
    simp [run_underlying Tryz.underlying104, part, h62, h5, Result.andThen, go_sem]
  exact h 9998

theorem under93 : Tryz.prog.underlying 93 = some (.map 104 55) := by kernel_rfl
/-- THE LOOK-UP AMONG THE SHAPES THAT COME NEXT: there is one. -/
theorem run_next_yes {w : World} {ρ : Nat → Role} {c : Nat} {ks : List ByteArray} (h : NextOK w ρ c ks) (k : ByteArray) (b : Nat) (hb : ρ b = .shape (ks ++ [k])) (hu : ∀ b', ρ b' = .shape (ks ++ [k]) → b' = b) :
    (Instr.lookup 93 (.map (some c)) (entK k) true).run Tryz.prog w = .ok (.tuple #[ptr b, .bool true]) w := by
  obtain ⟨es, clk, hc, h1, h2⟩ := h
  obtain ⟨e, he, hk, hv⟩ := h2 k b hb
  rcases find104 k w es.toList (fun e he => by obtain ⟨x, _, hx, _⟩ := h1 e he; exact ⟨x, hx⟩) with ⟨_, h4⟩ | ⟨j, e', h3, h4, h5⟩
  · exact absurd hk (h4 e he)
  · obtain ⟨x, b', hx, hv', hr⟩ := h1 e' (List.mem_of_getElem? h4)
    have hxk : x = k := entK_inj (hx.symm.trans h5)
    subst hxk
    have := hu b' hr
    subst this
    rw [hv'] at h3
    simp [Instr.lookup, run_underlying under93, MapKept.run_getObj_map hc, check104, h3, Result.andThen]
/-- There is none. -/
theorem run_next_no {w : World} {ρ : Nat → Role} {c : Nat} {ks : List ByteArray} (h : NextOK w ρ c ks) (k : ByteArray) (hno : ∀ b, ρ b ≠ .shape (ks ++ [k])) :
    (Instr.lookup 93 (.map (some c)) (entK k) true).run Tryz.prog w = .ok (.tuple #[.pointer none, .bool false]) w := by
  obtain ⟨es, clk, hc, h1, h2⟩ := h
  have hz := Tryz.zeroValue55 w
  rcases find104 k w es.toList (fun e he => by obtain ⟨x, _, hx, _⟩ := h1 e he; exact ⟨x, hx⟩) with ⟨h3, _⟩ | ⟨j, e', h3, h4, h5⟩
  · simp [Instr.lookup, run_underlying under93, MapKept.run_getObj_map hc, check104, h3, hz, Result.andThen]
  · obtain ⟨x, b', hx, hv', hr⟩ := h1 e' (List.mem_of_getElem? h4)
    have hxk : x = k := entK_inj (hx.symm.trans h5)
    subst hxk
    exact absurd hr (hno b')

/-- THE STORE OF A NEW ENTRY AMONG THE SHAPES THAT COME NEXT. -/
theorem run_next_new {w : World} {c clk : Nat} {es : Array MapEntry} (hc : w.heap[c]? = some (.map es clk)) (k : ByteArray) (v : Value) (h : ∀ e ∈ es.toList, ∃ x, e.key = entK x) (hno : ∀ e ∈ es.toList, e.key ≠ entK k) :
    (Instr.mapUpdate 93 (.map (some c)) (entK k) v).run Tryz.prog w = .ok () { w with heap := w.heap.setIfInBounds c (.map (es.push { key := entK k, val := v, born := clk }) (clk + 1)) } := by
  rcases find104 k w es.toList h with ⟨h3, _⟩ | ⟨j, e', _, h4, h5⟩
  · simp [Instr.mapUpdate, run_underlying under93, MapKept.run_getObj_map hc, check104, h3, MapKept.run_setObj_map _ hc, Result.andThen]
  · exact absurd h5 (hno e' (List.mem_of_getElem? h4))
end Go.Proofs.YtlacgdnidilndaaGreatDoor
