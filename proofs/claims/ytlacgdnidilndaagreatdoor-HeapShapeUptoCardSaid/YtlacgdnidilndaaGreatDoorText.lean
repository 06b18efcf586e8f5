/- Plain words on the text of units: it tells the units. -/
import Derived.Test.YtlacgdnidilndaaGreatDoorUni
import Derived.Lib.RuneBytes
namespace Go.Proofs.YtlacgdnidilndaaGreatDoor

def hiU (u : Nat) : Bool := decide (55296 ≤ u ∧ u < 56320)
def loU (u : Nat) : Bool := decide (56320 ≤ u ∧ u < 57344)
def b8 (n : Nat) : UInt8 := UInt8.ofNat n
theorem b8_toNat (n : Nat) (h : n < 256) : (b8 n).toNat = n := by unfold b8; rw [UInt8.toNat_ofNat']; omega
def e1 (u : Nat) : List UInt8 :=
  if u < 128 then [b8 u] else if u < 2048 then [b8 (192 + u / 64), b8 (128 + u % 64)] else [b8 (224 + u / 4096), b8 (128 + u / 64 % 64), b8 (128 + u % 64)]
def pairR (a b : Nat) : Nat := 65536 + (a - 55296) * 1024 + (b - 56320)
def e2 (r : Nat) : List UInt8 := [b8 (240 + r / 262144), b8 (128 + r / 4096 % 64), b8 (128 + r / 64 % 64), b8 (128 + r % 64)]
def text : List Nat → List UInt8
  | [] => []
  | [u] => e1 u
  | u :: v :: r => if (hiU u && loU v) = true then e2 (pairR u v) ++ text r else e1 u ++ text (v :: r)

/-- One step of the way back. -/
def dec1 (l : List UInt8) : List Nat × List UInt8 :=
  match l with
  | [] => ([], [])
  | a :: r =>
    if a.toNat < 128 then ([a.toNat], r)
    else if a.toNat < 224 then ([(a.toNat - 192) * 64 + ((r.getD 0 0).toNat - 128)], r.drop 1)
    else if a.toNat < 240 then ([(a.toNat - 224) * 4096 + ((r.getD 0 0).toNat - 128) * 64 + ((r.getD 1 0).toNat - 128)], r.drop 2)
    else
      let x := (a.toNat - 240) * 262144 + ((r.getD 0 0).toNat - 128) * 4096 + ((r.getD 1 0).toNat - 128) * 64 + ((r.getD 2 0).toNat - 128)
      ([55296 + (x - 65536) / 1024, 56320 + (x - 65536) % 1024], r.drop 3)
theorem dec1_e1 (u : Nat) (h : u < 65536) (t : List UInt8) : dec1 (e1 u ++ t) = ([u], t) := by
  unfold e1
  by_cases h1 : u < 128
  · rw [if_pos h1]
    have e := b8_toNat u (by omega)
    simp only [List.cons_append, List.nil_append, dec1, e]
    rw [if_pos h1]
  · rw [if_neg h1]
    by_cases h2 : u < 2048
    · rw [if_pos h2]
      have e := b8_toNat (192 + u / 64) (by omega)
      have e' := b8_toNat (128 + u % 64) (by omega)
      simp only [List.cons_append, List.nil_append, dec1, e]
      rw [if_neg (by omega), if_pos (by omega)]
      simp only [List.getD_cons_zero, e', List.drop_succ_cons, List.drop_zero]
      have e3 : (192 + u / 64 - 192) * 64 + (128 + u % 64 - 128) = u := by omega
      rw [e3]
    · rw [if_neg h2]
      have e := b8_toNat (224 + u / 4096) (by omega)
      have e' := b8_toNat (128 + u / 64 % 64) (by omega)
      have e'' := b8_toNat (128 + u % 64) (by omega)
      simp only [List.cons_append, List.nil_append, dec1, e]
      rw [if_neg (by omega), if_neg (by omega), if_pos (by omega)]
      simp only [List.getD_cons_zero, List.getD_cons_succ, e', e'', List.drop_succ_cons, List.drop_zero]
      have e3 : (224 + u / 4096 - 224) * 4096 + (128 + u / 64 % 64 - 128) * 64 + (128 + u % 64 - 128) = u := by omega
      rw [e3]
theorem dec1_e2 (u v : Nat) (hu : hiU u = true) (hv : loU v = true) (t : List UInt8) : dec1 (e2 (pairR u v) ++ t) = ([u, v], t) := by
  have hu' := of_decide_eq_true hu
  have hv' := of_decide_eq_true hv
  obtain ⟨r, hr⟩ : ∃ r, r = pairR u v := ⟨_, rfl⟩
  have hr2 : r = 65536 + (u - 55296) * 1024 + (v - 56320) := hr
  rw [← hr]
  unfold e2
  have q0 := b8_toNat (240 + r / 262144) (by omega)
  have q1 := b8_toNat (128 + r / 4096 % 64) (by omega)
  have q2 := b8_toNat (128 + r / 64 % 64) (by omega)
  have q3 := b8_toNat (128 + r % 64) (by omega)
  simp only [List.cons_append, List.nil_append, dec1, q0]
  rw [if_neg (by omega), if_neg (by omega), if_neg (by omega)]
  simp only [List.getD_cons_zero, List.getD_cons_succ, q1, q2, q3, List.drop_succ_cons, List.drop_zero]
  have e : (240 + r / 262144 - 240) * 262144 + (128 + r / 4096 % 64 - 128) * 4096 + (128 + r / 64 % 64 - 128) * 64 + (128 + r % 64 - 128) = r := by omega
  rw [e]
  have a1 : 55296 + (r - 65536) / 1024 = u := by omega
  have a2 : 56320 + (r - 65536) % 1024 = v := by omega
  rw [a1, a2]
theorem e1_ne (u : Nat) : e1 u ≠ [] := by unfold e1; split; · simp
                                          · split <;> simp
theorem text_nil : text [] = [] := rfl
theorem text_ne (u : Nat) (l : List Nat) : text (u :: l) ≠ [] := by
  match l with
  | [] => exact e1_ne u
  | v :: r =>
    simp only [text]
    split
    · simp [e2]
    · intro h; exact e1_ne u (List.append_eq_nil_iff.1 h).1
theorem text_step (u : Nat) (l : List Nat) (h : ∀ x ∈ u :: l, x < 65536) : ∃ c r, u :: l = c ++ r ∧ c ≠ [] ∧ dec1 (text (u :: l)) = (c, text r) := by
  have hu := h u (by simp)
  match l with
  | [] =>
    refine ⟨[u], [], rfl, by simp, ?_⟩
    have e := dec1_e1 u hu []
    rw [List.append_nil] at e
    exact e
  | v :: r =>
    by_cases hp : (hiU u && loU v) = true
    · refine ⟨[u, v], r, rfl, by simp, ?_⟩
      simp only [text]
      rw [if_pos hp]
      rw [Bool.and_eq_true] at hp
      exact dec1_e2 u v hp.1 hp.2 _
    · refine ⟨[u], v :: r, rfl, by simp, ?_⟩
      simp only [text]
      rw [if_neg hp]
      exact dec1_e1 u hu _
/-- THE TEXT TELLS THE UNITS. -/
theorem text_inj : ∀ (n : Nat) (l m : List Nat), l.length ≤ n → (∀ u ∈ l, u < 65536) → (∀ u ∈ m, u < 65536) → text l = text m → l = m := by
  intro n
  induction n with
  | zero =>
    intro l m hl _ _ he
    obtain rfl : l = [] := List.eq_nil_of_length_eq_zero (by omega)
    match m with
    | [] => rfl
    | x :: m => exact absurd he.symm (text_ne x m)
  | succ n ih =>
    intro l m hl h1 h2 he
    match l, m with
    | [], [] => rfl
    | [], x :: m => exact absurd he.symm (text_ne x m)
    | u :: l, [] => exact absurd he (text_ne u l)
    | u :: l, x :: m =>
      obtain ⟨c, r, e1, hc, d1⟩ := text_step u l h1
      obtain ⟨c', r', e2, hc', d2⟩ := text_step x m h2
      rw [he, d2] at d1
      have ec : c' = c := congrArg Prod.fst d1
      have er : text r' = text r := congrArg Prod.snd d1
      have hlen : r.length ≤ n := by
        have h3 := congrArg List.length e1
        rw [List.length_append] at h3
        have h4 := List.length_pos_iff.2 hc
        omega
      have hr := ih r r' hlen (fun y hy => h1 y (by rw [e1]; exact List.mem_append.2 (.inr hy))) (fun y hy => h2 y (by rw [e2]; exact List.mem_append.2 (.inr hy))) er.symm
      rw [e1, e2, ec, hr]

theorem drop_at {l : List Nat} {k u : Nat} (h : l[k]? = some u) : l.drop k = u :: l.drop (k + 1) := by
  obtain ⟨hk, rfl⟩ := List.getElem?_eq_some_iff.1 h
  exact List.drop_eq_getElem_cons hk
/-- How the text of what is left begins: for the walk. -/
theorem text_pair {l : List Nat} {k u v : Nat} (h0 : l[k]? = some u) (h1 : l[k + 1]? = some v) (hu : hiU u = true) (hv : loU v = true) : text (l.drop k) = e2 (pairR u v) ++ text (l.drop (k + 1 + 1)) := by
  rw [drop_at h0, drop_at h1]
  simp only [text]
  rw [if_pos (by rw [hu, hv]; rfl)]
theorem text_one {l : List Nat} {k u : Nat} (h0 : l[k]? = some u) (h : ∀ v, l[k + 1]? = some v → hiU u = true → loU v = false) : text (l.drop k) = e1 u ++ text (l.drop (k + 1)) := by
  rw [drop_at h0]
  by_cases hk : k + 1 < l.length
  · have h1 : l[k + 1]? = some l[k + 1] := List.getElem?_eq_getElem hk
    rw [drop_at h1]
    simp only [text]
    rw [if_neg]
    intro hh
    rw [Bool.and_eq_true] at hh
    have := h _ h1 hh.1
    rw [hh.2] at this
    cases this
  · rw [List.drop_eq_nil_of_le (by omega)]
    simp only [text, List.append_nil]
theorem e1_sur (u : Nat) (h : hiU u = true ∨ loU u = true) : e1 u = [b8 237, b8 (128 + u / 64 % 64), b8 (128 + u % 64)] ∧ 55296 ≤ u ∧ u < 57344 := by
  have hh : 55296 ≤ u ∧ u < 57344 := by
    rcases h with h | h
    · have := of_decide_eq_true h; omega
    · have := of_decide_eq_true h; omega
  refine ⟨?_, hh⟩
  unfold e1
  rw [if_neg (by omega), if_neg (by omega)]
  have e : 224 + u / 4096 = 237 := by omega
  rw [e]
theorem rune_one (u : Nat) (h : u < 65536) (h1 : hiU u = false) (h2 : loU u = false) : Lib.runeCells (u : Int) = (e1 u).map fun b : UInt8 => Value.int .u8 (b.toNat : Int) := by
  have h1' : ¬ (55296 ≤ u ∧ u < 56320) := of_decide_eq_false h1
  have h2' : ¬ (56320 ≤ u ∧ u < 57344) := of_decide_eq_false h2
  unfold Lib.runeCells e1
  by_cases c1 : u < 128
  · rw [if_pos c1, Lib.encodeRuneZ_one (by omega) (by omega)]
    simp only [List.map_cons, List.map_nil, b8_toNat u (by omega)]
  · rw [if_neg c1]
    by_cases c2 : u < 2048
    · rw [if_pos c2, Lib.encodeRuneZ_two (by omega) (by omega)]
      simp only [List.map_cons, List.map_nil, b8_toNat (192 + u / 64) (by omega), b8_toNat (128 + u % 64) (by omega)]
      simp
    · rw [if_neg c2, Lib.encodeRuneZ_three (by omega)]
      simp only [List.map_cons, List.map_nil, b8_toNat (224 + u / 4096) (by omega), b8_toNat (128 + u / 64 % 64) (by omega), b8_toNat (128 + u % 64) (by omega)]
      simp
theorem rune_two (r : Nat) (h0 : 65536 ≤ r) (h1 : r ≤ 1114111) : Lib.runeCells (r : Int) = (e2 r).map fun b : UInt8 => Value.int .u8 (b.toNat : Int) := by
  unfold Lib.runeCells e2
  rw [Lib.encodeRuneZ_four (by omega) (by omega)]
  simp only [List.map_cons, List.map_nil, b8_toNat (240 + r / 262144) (by omega), b8_toNat (128 + r / 4096 % 64) (by omega), b8_toNat (128 + r / 64 % 64) (by omega), b8_toNat (128 + r % 64) (by omega)]
  simp
theorem and_fc00 (u : Nat) (h : u < 65536) : u &&& 64512 = u / 1024 * 1024 := by
  have e : u / 1024 * 1024 = (u >>> 10) <<< 10 := by rw [Nat.shiftRight_eq_div_pow, Nat.shiftLeft_eq]
  rw [e]
  apply Nat.eq_of_testBit_eq
  intro i
  rw [Nat.testBit_and, Nat.testBit_shiftLeft, Nat.testBit_shiftRight]
  by_cases h1 : 10 ≤ i
  · have e2 : 10 + (i - 10) = i := by omega
    rw [e2]
    by_cases h2 : i < 16
    · have h3 : i = 10 ∨ i = 11 ∨ i = 12 ∨ i = 13 ∨ i = 14 ∨ i = 15 := by omega
      rcases h3 with rfl | rfl | rfl | rfl | rfl | rfl <;> simp [Nat.testBit]
    · have h3 : u.testBit i = false := Nat.testBit_lt_two_pow (Nat.lt_of_lt_of_le h (Nat.le_trans (by decide : 65536 ≤ 2 ^ 16) (Nat.pow_le_pow_right (by decide) (by omega))))
      rw [h3]
      simp
  · have h3 : i = 0 ∨ i = 1 ∨ i = 2 ∨ i = 3 ∨ i = 4 ∨ i = 5 ∨ i = 6 ∨ i = 7 ∨ i = 8 ∨ i = 9 := by omega
    rcases h3 with rfl | rfl | rfl | rfl | rfl | rfl | rfl | rfl | rfl | rfl <;> simp [Nat.testBit]
theorem hi_and (u : Nat) (h : u < 65536) : (u &&& 64512 = 55296) ↔ hiU u = true := by
  rw [and_fc00 u h]
  unfold hiU
  rw [decide_eq_true_iff]
  omega
theorem lo_and (u : Nat) (h : u < 65536) : (u &&& 64512 = 56320) ↔ loU u = true := by
  rw [and_fc00 u h]
  unfold loU
  rw [decide_eq_true_iff]
  omega
end Go.Proofs.YtlacgdnidilndaaGreatDoor
