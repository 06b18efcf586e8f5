/- Plain words on texts and keys: the units of a text, a key packed two bytes a unit, the text of a key, and that a key is told by its text. -/
import Derived.Shelf.Unicode.DecodeSlow
import Derived.Lib.RuneCountTail
namespace Go.Proofs.YtlacgdnidilndaaGreatDoor

/-- Two bytes a unit, the higher first. -/
def pack (l : List Nat) : List UInt8 := l.flatMap fun u => [UInt8.ofNat (u / 256), UInt8.ofNat (u % 256)]
theorem pack_nil : pack [] = [] := rfl
theorem pack_cons (u : Nat) (l : List Nat) : pack (u :: l) = [UInt8.ofNat (u / 256), UInt8.ofNat (u % 256)] ++ pack l := by simp [pack]
theorem pack_append (l m : List Nat) : pack (l ++ m) = pack l ++ pack m := by simp [pack, List.flatMap_append]
theorem pack_length (l : List Nat) : (pack l).length = 2 * l.length := by
  induction l with
  | nil => rfl
  | cons u l ih => rw [pack_cons, List.length_append, ih]; simp; omega

/-- The units of a packed key. -/
def unpack : List UInt8 → List Nat
  | a :: b :: r => (a.toNat * 256 + b.toNat) :: unpack r
  | _ => []
theorem unpack_pack (l : List Nat) (h : ∀ u ∈ l, u < 65536) : unpack (pack l) = l := by
  induction l with
  | nil => rfl
  | cons u l ih =>
    have hu := h u (by simp)
    rw [pack_cons]
    simp only [List.cons_append, List.nil_append, unpack]
    rw [ih fun v hv => h v (by simp [hv])]
    simp [UInt8.toNat_ofNat']
    omega
theorem unpack_length : ∀ (n : Nat) (l : List UInt8), l.length = 2 * n → (unpack l).length = n := by
  intro n
  induction n with
  | zero => intro l h; obtain rfl := List.eq_nil_of_length_eq_zero (l := l) (by omega); rfl
  | succ n ih =>
    intro l h
    match l, h with
    | a :: b :: r, h => simp only [unpack, List.length_cons]; rw [ih r (by simp at h; omega)]
    | [a], h => simp at h; omega
    | [], h => simp at h
theorem pack_unpack : ∀ (n : Nat) (l : List UInt8), l.length = 2 * n → pack (unpack l) = l := by
  intro n
  induction n with
  | zero => intro l h; obtain rfl := List.eq_nil_of_length_eq_zero (l := l) (by omega); rfl
  | succ n ih =>
    intro l h
    match l, h with
    | a :: b :: r, h =>
      simp only [unpack]
      rw [pack_cons, ih r (by simp at h; omega)]
      have ha := a.toNat_lt
      have hb := b.toNat_lt
      have e1 : (a.toNat * 256 + b.toNat) / 256 = a.toNat := by omega
      have e2 : (a.toNat * 256 + b.toNat) % 256 = b.toNat := by omega
      rw [e1, e2]
      simp
    | [a], h => simp at h; omega
    | [], h => simp at h
theorem unpack_lt : ∀ (l : List UInt8), ∀ u ∈ unpack l, u < 65536
  | a :: b :: r, u, h => by
    simp only [unpack, List.mem_cons] at h
    have ha := a.toNat_lt
    have hb := b.toNat_lt
    rcases h with rfl | h
    · omega
    · exact unpack_lt r u h
  | [a], u, h => by simp [unpack] at h
  | [], u, h => by simp [unpack] at h
theorem unpack_get : ∀ (l : List UInt8) (i : Nat) (h : 2 * i + 1 < l.length), (unpack l)[i]? = some ((l[2 * i]'(by omega)).toNat * 256 + (l[2 * i + 1]'h).toNat)
  | a :: b :: r, 0, h => by simp [unpack]
  | a :: b :: r, i + 1, h => by
    simp only [unpack, List.getElem?_cons_succ]
    rw [unpack_get r i (by simp at h; omega)]
    have e1 : 2 * (i + 1) = 2 * i + 1 + 1 := by omega
    simp only [e1, List.getElem_cons_succ]
  | [a], i, h => by simp at h
  | [], i, h => by simp at h

/-- What stands at the front of a text: a code point, or a half of a pair that stands alone; and its bytes. -/
def nextR (s : ByteArray) : Nat × Nat :=
  if (Lib.decodeGo s).1 = 65533 ∧ (Lib.decodeGo s).2 = 1 ∧ 2 < s.size ∧ (s.get! 0).toNat = 237 ∧ 160 ≤ (s.get! 1).toNat ∧ (s.get! 1).toNat ≤ 191 ∧ 128 ≤ (s.get! 2).toNat ∧ (s.get! 2).toNat ≤ 191 then
    (53248 + (s.get! 1).toNat % 64 * 64 + (s.get! 2).toNat % 64, 3)
  else Lib.decodeGo s

theorem decode_facts (s : ByteArray) (h : 0 < s.size) : 1 ≤ (Lib.decodeGo s).2 ∧ (Lib.decodeGo s).2 ≤ s.size ∧ (Lib.decodeGo s).1 < 1114112 ∧ (65536 ≤ (Lib.decodeGo s).1 → 4 = (Lib.decodeGo s).2) ∧ (128 ≤ (s.get! 0).toNat → 128 ≤ (Lib.decodeGo s).1) := by
  unfold Lib.decodeGo
  rw [if_neg (by omega)]
  unfold Utf8.decode Utf8.runeError Utf8.valid
  simp only [Nat.zero_add]
  have hb : (s.get! 0).toNat < 256 := (s.get! 0).toNat_lt
  repeat' split
  all_goals simp only [Bool.and_eq_true, decide_eq_true_eq, Bool.or_eq_true, ge_iff_le] at *
  all_goals refine ⟨?_, ?_, ?_, ?_, ?_⟩
  all_goals first | omega | exact fun _ => trivial
theorem next_facts (s : ByteArray) (h : 0 < s.size) : 1 ≤ (nextR s).2 ∧ (nextR s).2 ≤ s.size ∧ (nextR s).1 < 1114112 ∧ (65536 ≤ (nextR s).1 → 4 = (nextR s).2) ∧ (128 ≤ (s.get! 0).toNat → 128 ≤ (nextR s).1) := by
  unfold nextR
  split
  · refine ⟨?_, ?_, ?_, ?_, ?_⟩ <;> omega
  · exact decode_facts s h

/-- One code point's units. -/
def unitsR (r : Nat) : List Nat := if 65536 ≤ r then [55296 + (r - 65536) / 1024, 56320 + (r - 65536) % 1024] else [r]
def unitsF : Nat → ByteArray → List Nat
  | 0, _ => []
  | f + 1, s => if s.size = 0 then [] else unitsR (nextR s).1 ++ unitsF f (s.extract (nextR s).2 s.size)
def unitsOf (s : ByteArray) : List Nat := unitsF s.size s

theorem unitsF_same : ∀ (f g : Nat) (s : ByteArray), s.size ≤ f → s.size ≤ g → unitsF f s = unitsF g s := by
  intro f
  induction f with
  | zero =>
    intro g s h _
    match g with
    | 0 => rfl
    | g + 1 => simp only [unitsF]; rw [if_pos (by omega)]
  | succ f ih =>
    intro g s h hg
    match g with
    | 0 => simp only [unitsF]; rw [if_pos (by omega)]
    | g + 1 =>
      simp only [unitsF]
      by_cases hs : s.size = 0
      · rw [if_pos hs, if_pos hs]
      · rw [if_neg hs, if_neg hs]
        have hn := next_facts s (by omega)
        have e : (s.extract (nextR s).2 s.size).size = s.size - (nextR s).2 := by simp [ByteArray.size_extract]
        rw [ih g _ (by omega) (by omega)]
theorem unitsOf_empty (s : ByteArray) (h : s.size = 0) : unitsOf s = [] := by unfold unitsOf; rw [h]; rfl
theorem unitsOf_step (s : ByteArray) (h : 0 < s.size) : unitsOf s = unitsR (nextR s).1 ++ unitsOf (s.extract (nextR s).2 s.size) := by
  have hn := next_facts s h
  have e : (s.extract (nextR s).2 s.size).size = s.size - (nextR s).2 := by simp [ByteArray.size_extract]
  show unitsF s.size s = _
  rw [unitsF_same s.size (s.size + 1) s (Nat.le_refl _) (by omega)]
  simp only [unitsF]
  rw [if_neg (by omega)]
  congr 1
  exact unitsF_same _ _ _ (by omega) (Nat.le_refl _)
theorem unitsR_lt (r : Nat) (h : r < 1114112) : ∀ u ∈ unitsR r, u < 65536 := by
  intro u hu
  unfold unitsR at hu
  split at hu
  · simp at hu; omega
  · simp at hu; omega
theorem unitsR_length (r : Nat) : (unitsR r).length = if 65536 ≤ r then 2 else 1 := by unfold unitsR; split <;> rfl
theorem decode_low (s : ByteArray) (h : 0 < s.size) (hb : (s.get! 0).toNat < 128) : Lib.decodeGo s = ((s.get! 0).toNat, 1) := by
  unfold Lib.decodeGo
  rw [if_neg (by omega)]
  unfold Utf8.decode
  simp only [Nat.zero_add]
  rw [if_pos hb]
theorem next_low (s : ByteArray) (h : 0 < s.size) (hb : (s.get! 0).toNat < 128) : nextR s = ((s.get! 0).toNat, 1) := by
  have e := decode_low s h hb
  unfold nextR
  rw [if_neg (by rw [e]; intro hh; have := hh.1; simp only at this; omega), e]
theorem unitsR_high (r : Nat) (h : 128 ≤ r) : ∃ u ∈ unitsR r, 128 ≤ u := by
  unfold unitsR
  split
  · exact ⟨_, List.mem_cons_self, by omega⟩
  · exact ⟨r, by simp, h⟩
theorem unitsOf_facts : ∀ (n : Nat) (s : ByteArray), s.size ≤ n → (∀ u ∈ unitsOf s, u < 65536) ∧ (unitsOf s).length ≤ s.size ∧ ((∃ i, i < s.size ∧ 128 ≤ (s.get! i).toNat) → ∃ u ∈ unitsOf s, 128 ≤ u) := by
  intro n
  induction n with
  | zero =>
    intro s h
    rw [unitsOf_empty s (by omega)]
    refine ⟨fun u h => by simp at h, by simp, fun ⟨i, hi, _⟩ => by omega⟩
  | succ n ih =>
    intro s h
    by_cases hs : s.size = 0
    · rw [unitsOf_empty s hs]
      refine ⟨fun u h => by simp at h, by simp, fun ⟨i, hi, _⟩ => by omega⟩
    · have hn := next_facts s (by omega)
      have e : (s.extract (nextR s).2 s.size).size = s.size - (nextR s).2 := by simp [ByteArray.size_extract]
      obtain ⟨i1, i2, i3⟩ := ih (s.extract (nextR s).2 s.size) (by omega)
      rw [unitsOf_step s (by omega)]
      refine ⟨fun u hu => ?_, ?_, fun ⟨i, hi, hg⟩ => ?_⟩
      · rcases List.mem_append.1 hu with hu | hu
        · exact unitsR_lt _ hn.2.2.1 u hu
        · exact i1 u hu
      · rw [List.length_append, unitsR_length]
        split
        · have := hn.2.2.2.1 (by assumption); omega
        · omega
      · by_cases hlow : (s.get! 0).toNat < 128
        · have e1 := next_low s (by omega) hlow
          have e2 : (nextR s).2 = 1 := by rw [e1]
          have hi0 : i ≠ 0 := by intro h0; subst h0; omega
          obtain ⟨u, hu, hu2⟩ := i3 ⟨i - 1, by omega, by rw [Lib.tail_get!, e2, show 1 + (i - 1) = i by omega]; exact hg⟩
          exact ⟨u, List.mem_append.2 (.inr hu), hu2⟩
        · obtain ⟨u, hu, hu2⟩ := unitsR_high (nextR s).1 (hn.2.2.2.2 (by omega))
          exact ⟨u, List.mem_append.2 (.inl hu), hu2⟩

/-- The key of a text. -/
def asciiB (s : ByteArray) : Prop := ∀ i, i < s.size → (s.get! i).toNat < 128
def widen (l : List UInt8) : List UInt8 := l.flatMap fun b => [0, b]
open Classical in
noncomputable def keyL (s : ByteArray) : List UInt8 := if asciiB s then widen s.data.toList else pack (unitsOf s)
noncomputable def keyOf (s : ByteArray) : ByteArray := ⟨(keyL s).toArray⟩
theorem widen_length (l : List UInt8) : (widen l).length = 2 * l.length := by
  induction l with
  | nil => rfl
  | cons b l ih => simp only [widen, List.flatMap_cons, List.length_append] at *; rw [ih]; simp; omega
theorem widen_append (l m : List UInt8) : widen (l ++ m) = widen l ++ widen m := by simp [widen, List.flatMap_append]
theorem widen_pack (l : List UInt8) : widen l = pack (l.map UInt8.toNat) := by
  induction l with
  | nil => rfl
  | cons b l ih =>
    rw [List.map_cons, pack_cons, ← ih]
    have hb := b.toNat_lt
    have e1 : b.toNat / 256 = 0 := by omega
    have e2 : b.toNat % 256 = b.toNat := by omega
    rw [e1, e2]
    simp [widen]
end Go.Proofs.YtlacgdnidilndaaGreatDoor
