/- A heap without objects: contract of objects.New. -/
import Derived.Test.YtlacgdnidilndaaGreatDoorReads
import Derived.RegionTactic
import Derived.Deep.RegionWith
namespace Go.Proofs.YtlacgdnidilndaaGreatDoor
open Go.RowKit
open Go.Proofs (Tryz.prog)

theorem heap_of_alloc (w : World) (o : Obj) (b : Nat) : (w.alloc o).heap[b]? = if b = w.heap.size then some o else w.heap[b]? := Array.getElem?_push
theorem size_of_alloc (w : World) (o : Obj) : (w.alloc o).heap.size = w.heap.size + 1 := by simp
theorem heap_of_drew (w : World) (b : Nat) : w.drew.heap[b]? = w.heap[b]? := rfl
theorem lt_of_heap {w : World} {b : Nat} {o : Obj} (h : w.heap[b]? = some o) : b < w.heap.size := (Array.getElem?_eq_some_iff.1 h).1
set_option maxHeartbeats 1000000 in
theorem newShape_any (w : World) :
    Calls Tryz.prog 31 #[] w fun e w' => e = .returned (ptr (w.heap.size + 1)) ∧ w' = (w.alloc (.map #[] 0)).alloc (.cells #[noSlice, .map (some w.heap.size), .map none, .bool false] 95) := by
  unfold ptr noSlice
  have hmm := @run_makeMap Tryz.prog
  go_enter Tryz.func31, Tryz.ntmps31
  go_wp2
  go_ret
  exact ⟨rfl, rfl⟩

theorem make1 (w : World) : (Instr.makeSlice 76 (.int .i64 1) (.int .i64 1)).run Tryz.prog w = .ok (.slice (some ⟨w.heap.size, 0, none⟩) 1 1) (w.alloc (.cells zeroOb.toArray 88)) := by kernel_rfl
/-- What heap.New leaves. -/
structure NewAt (w w' : World) (hp bc sh mp : Nat) : Prop where
  ge : w.heap.size ≤ hp ∧ w.heap.size ≤ bc ∧ w.heap.size ≤ sh ∧ w.heap.size ≤ mp
  ne : hp ≠ bc ∧ hp ≠ sh ∧ hp ≠ mp ∧ bc ≠ sh ∧ bc ≠ mp ∧ sh ≠ mp
  hp : w'.heap[hp]? = some (.cells #[.slice (some ⟨bc, 0, none⟩) 1 1, noSlice, ptr sh, .int .i64 0, .int .i64 0] 80 (0, 0))
  bc : w'.heap[bc]? = some (.cells zeroOb.toArray 88 (0, 0))
  sh : w'.heap[sh]? = some (.cells #[noSlice, .map (some mp), .map none, .bool false] 95 (0, 0))
  mp : w'.heap[mp]? = some (.map #[] 0)
  below : Below w.heap.size w w'
set_option maxHeartbeats 4000000 in
set_option maxRecDepth 100000 in
theorem heapNew_any (w : World) :
    Calls Tryz.prog 14 #[] w fun e w' => ∃ hp bc sh mp, e = .returned (ptr hp) ∧ NewAt w w' hp bc sh mp := by
  have hmk := make1
  go_enter Tryz.func14, Tryz.ntmps14
  go_wp2_with fail
  go_region_with (go_at_call 31; refine (newShape_any _).mono ?_; rintro e w' ⟨rfl, rfl⟩; unfold ptr noSlice)
  · go_wp2
    go_ret
    refine ⟨w.heap.size + 1 + 1 + 1, w.heap.size, w.heap.size + 1 + 1, w.heap.size + 1, rfl, ⟨by omega, by omega, ?_, ?_, ?_, ?_, ?_⟩⟩
    · simp only [heap_of_alloc, heap_of_drew, size_of_alloc]; (repeat first | rw [if_pos trivial] | rw [if_pos (by omega)] | rw [if_neg (by omega)]); try simp [ptr, noSlice]
    · simp only [heap_of_alloc, heap_of_drew, size_of_alloc]; (repeat first | rw [if_pos trivial] | rw [if_pos (by omega)] | rw [if_neg (by omega)])
    · simp only [heap_of_alloc, heap_of_drew, size_of_alloc]; (repeat first | rw [if_pos trivial] | rw [if_pos (by omega)] | rw [if_neg (by omega)]); try simp [noSlice]
    · simp only [heap_of_alloc, heap_of_drew, size_of_alloc]; (repeat first | rw [if_pos trivial] | rw [if_pos (by omega)] | rw [if_neg (by omega)])
    · exact (((((Below.refl _ _).alloc (Nat.le_refl _) _).alloc (by simp) _).alloc (by simp; omega) _).alloc (by simp; omega) _).drew
  · go_wp2
    go_ret
    refine ⟨w.heap.size + 1 + 1 + 1, w.heap.size + 1 + 1, w.heap.size + 1, w.heap.size, rfl, ⟨by omega, by omega, ?_, ?_, ?_, ?_, ?_⟩⟩
    · simp only [heap_of_alloc, heap_of_drew, size_of_alloc]; (repeat first | rw [if_pos trivial] | rw [if_pos (by omega)] | rw [if_neg (by omega)]); try simp [ptr, noSlice]
    · simp only [heap_of_alloc, heap_of_drew, size_of_alloc]; (repeat first | rw [if_pos trivial] | rw [if_pos (by omega)] | rw [if_neg (by omega)])
    · simp only [heap_of_alloc, heap_of_drew, size_of_alloc]; (repeat first | rw [if_pos trivial] | rw [if_pos (by omega)] | rw [if_neg (by omega)]); try simp [noSlice]
    · simp only [heap_of_alloc, heap_of_drew, size_of_alloc]; (repeat first | rw [if_pos trivial] | rw [if_pos (by omega)] | rw [if_neg (by omega)])
    · exact (((((Below.refl _ _).alloc (Nat.le_refl _) _).alloc (by simp) _).alloc (by simp; omega) _).alloc (by simp; omega) _).drew

/-- WHAT PLAYS NO PART LIES AS IT LAY: two states, one behind the other. -/
structure Kept (w w' : World) (σ σ' : Sig) : Prop where
  os : w'.os = w.os
  tape : w'.tape = w.tape
  output : w'.output = w.output
  size : w.heap.size ≤ w'.heap.size
  block : ∀ b, b < w.heap.size → σ.ρ b = .none → σ'.ρ b = .none ∧ w'.heap[b]? = w.heap[b]?
theorem Kept.trans {w w' w'' : World} {σ σ' σ'' : Sig} (h : Kept w w' σ σ') (k : Kept w' w'' σ' σ'') : Kept w w'' σ σ'' :=
  ⟨k.os.trans h.os, k.tape.trans h.tape, k.output.trans h.output, Nat.le_trans h.size k.size, fun b hb hr => by
    obtain ⟨h1, h2⟩ := h.block b hb hr
    obtain ⟨h3, h4⟩ := k.block b (Nat.lt_of_lt_of_le hb h.size) h1
    exact ⟨h3, h4.trans h2⟩⟩
theorem Kept.of_below {w w' : World} (σ : Sig) (h : Below w.heap.size w w') : Kept w w' σ σ := ⟨h.os, h.tape, h.output, h.size, fun b hb hr => ⟨hr, h.block b hb⟩⟩
/-- Below the state's first block all lies as it lay. -/
theorem Kept.below {B : Nat} {w w' : World} {σ σ' : Sig} (h : Kept w w' σ σ') (hs : St B w σ) (hB : B ≤ w.heap.size) : Below B w w' :=
  ⟨h.os, h.tape, h.output, h.size, fun b hb => (h.block b (by omega) (by
    by_cases hr : σ.ρ b = .none
    · exact hr
    · have := (hs.base b hr).1; omega)).2⟩

open Classical in
/-- The state of a heap without objects. -/
theorem St.fresh {B : Nat} {w : World} {oh hp bc sh mp : Nat} (hge : B ≤ oh ∧ B ≤ hp ∧ B ≤ bc ∧ B ≤ sh ∧ B ≤ mp) (hne : oh ≠ hp ∧ oh ≠ bc ∧ oh ≠ sh ∧ oh ≠ mp ∧ hp ≠ bc ∧ hp ≠ sh ∧ hp ≠ mp ∧ bc ≠ sh ∧ bc ≠ mp ∧ sh ≠ mp)
    (h0 : w.heap[oh]? = some (.cells #[ptr hp] 46 (0, 0)))
    (h1 : w.heap[hp]? = some (.cells #[.slice (some ⟨bc, 0, none⟩) 1 1, noSlice, ptr sh, .int .i64 0, .int .i64 0] 80 (0, 0))) (h2 : w.heap[bc]? = some (.cells zeroOb.toArray 88 (0, 0)))
    (h3 : w.heap[sh]? = some (.cells #[noSlice, .map (some mp), .map none, .bool false] 95 (0, 0))) (h4 : w.heap[mp]? = some (.map #[] 0)) :
    ∃ ρ, St B w ⟨oh, hp, bc, 1, sh, [], ρ⟩ := by
  obtain ⟨ρ, hρ⟩ : ∃ ρ : Nat → Role, ρ = fun b => if b = oh then .oh else if b = hp then .hp else if b = bc then .objs else if b = sh then .shape [] else if b = mp then .spots [] else .none := ⟨_, rfl⟩
  have r0 : ρ oh = .oh := by rw [hρ]; simp
  have r1 : ρ hp = .hp := by rw [hρ]; simp [hne.1.symm]
  have r2 : ρ bc = .objs := by rw [hρ]; simp [hne.2.1.symm, hne.2.2.2.2.1.symm]
  have r3 : ρ sh = .shape [] := by rw [hρ]; simp [hne.2.2.1.symm, hne.2.2.2.2.2.1.symm, hne.2.2.2.2.2.2.2.1.symm]
  have r4 : ρ mp = .spots [] := by rw [hρ]; simp [hne.2.2.2.1.symm, hne.2.2.2.2.2.2.1.symm, hne.2.2.2.2.2.2.2.2.1.symm, hne.2.2.2.2.2.2.2.2.2.symm]
  have only : ∀ b ks, ρ b = .shape ks → b = sh ∧ ks = [] := by
    intro b ks hb
    rw [hρ] at hb
    simp only at hb
    split at hb
    · simp at hb
    · split at hb
      · simp at hb
      · split at hb
        · simp at hb
        · split at hb
          · rename_i hbs
            exact ⟨hbs, by simpa using hb.symm⟩
          · split at hb <;> simp at hb
  have lt : ∀ {b : Nat} {o : Obj}, w.heap[b]? = some o → b < w.heap.size := fun h => (Array.getElem?_eq_some_iff.1 h).1
  refine ⟨ρ, ⟨?_, ⟨r0, h0⟩, ⟨r1, 0, 0, h1⟩, ⟨r2, _, h2, rfl, by simp, by simp [maxLen], rfl⟩, by simp, r3, by simp, ?_, ?_, ?_⟩⟩
  · intro b hb
    rw [hρ] at hb
    simp only at hb
    split at hb
    · subst b; exact ⟨hge.1, lt h0⟩
    · split at hb
      · subst b; exact ⟨hge.2.1, lt h1⟩
      · split at hb
        · subst b; exact ⟨hge.2.2.1, lt h2⟩
        · split at hb
          · subst b; exact ⟨hge.2.2.2.1, lt h3⟩
          · split at hb
            · subst b; exact ⟨hge.2.2.2.2, lt h4⟩
            · simp at hb
  · intro b ks hb
    obtain ⟨rfl, rfl⟩ := only b ks hb
    refine ⟨noSlice, mp, none, h3, by simp, ⟨by simp [entCells], .inl ⟨rfl, rfl⟩⟩, by simp [noSlice, Value.ownBlock], r4, ⟨#[], 0, h4, rfl⟩, .inl ⟨rfl, ?_⟩⟩
    intro k b' hb'
    have := (only b' _ hb').2
    simp at this
  · intro b b' ks hb hb'
    rw [(only b ks hb).1, (only b' ks hb').1]
  · intro b ks k hb
    have := (only b _ hb).2
    simp at this

set_option maxHeartbeats 1000000 in
theorem new_any (w : World) :
    Calls Tryz.prog 4 #[] w fun e w' => ∃ σ, e = .returned (ptr σ.oh) ∧ σ.obs = [] ∧ St w.heap.size w' σ ∧ Below w.heap.size w w' ∧ ∀ b, b < w.heap.size → σ.ρ b = .none := by
  have HN := Lib.hid (heapNew_any w)
  go_enter Tryz.func4, Tryz.ntmps4
  go_wp2_with (go_at_call 14; refine HN.out.mono ?_; rintro e w' ⟨hp, bc, sh, mp, rfl, hn⟩; have HH := Lib.hid hn; clear hn; unfold ptr)
  go_ret
  have h := HH.out
  have hz := h.below.size
  have lt : ∀ {b : Nat} {o : Obj}, w'.heap[b]? = some o → b < w'.heap.size := fun h => (Array.getElem?_eq_some_iff.1 h).1
  have l1 := lt h.hp
  have l2 := lt h.bc
  have l3 := lt h.sh
  have l4 := lt h.mp
  obtain ⟨ρ, hs⟩ := St.fresh (B := w.heap.size) (w := w'.alloc (.cells #[ptr hp] 46)) (oh := w'.heap.size) (hp := hp) (bc := bc) (sh := sh) (mp := mp) ⟨hz, h.ge⟩
    ⟨by omega, by omega, by omega, by omega, h.ne.1, h.ne.2.1, h.ne.2.2.1, h.ne.2.2.2.1, h.ne.2.2.2.2.1, h.ne.2.2.2.2.2⟩
    (by simp only [heap_of_alloc, if_true]) ((Below.heap_alloc _ _ _ l1).trans h.hp) ((Below.heap_alloc _ _ _ l2).trans h.bc) ((Below.heap_alloc _ _ _ l3).trans h.sh) ((Below.heap_alloc _ _ _ l4).trans h.mp)
  refine ⟨_, rfl, rfl, hs, h.below.alloc hz _, fun b hb => ?_⟩
  by_cases hr : ρ b = .none
  · exact hr
  · have := (hs.base b hr).1; omega
end Go.Proofs.YtlacgdnidilndaaGreatDoor
