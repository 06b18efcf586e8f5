/- A key that is a place: contracts of heap.Index and ecmacoreref4.Index. -/
import Derived.Test.YtlacgdnidilndaaGreatDoorRef
namespace Go.Proofs.YtlacgdnidilndaaGreatDoor
open Go.RowKit
open Go.Proofs (Tryz.prog)

def dig (u : Nat) : Bool := decide (48 ≤ u ∧ u ≤ 57)
def valU (l : List Nat) : Nat := l.foldl (fun n u => n * 10 + (u - 48)) 0
theorem valU_snoc (l : List Nat) (u : Nat) : valU (l ++ [u]) = valU l * 10 + (u - 48) := by simp [valU, List.foldl_append]
/-- May it be a place: by its length and its first sign. -/
def frontU (l : List Nat) : Bool := decide (l ≠ [] ∧ l.length ≤ 10 ∧ (l.head? = some 48 → l.length ≤ 1))
def okU (l : List Nat) : Bool := frontU l && l.all dig && decide (valU l < 4294967295)

theorem valU_lt : ∀ (k : Nat) (l : List Nat), l.length = k → l.all dig = true → valU l < 10 ^ k := by
  intro k
  induction k with
  | zero => intro l h _; rw [List.eq_nil_of_length_eq_zero h]; simp [valU]
  | succ k ih =>
    intro l h ha
    obtain ⟨m, u, rfl⟩ : ∃ m u, l = m ++ [u] := ⟨l.dropLast, l.getLast (by intro h0; subst h0; simp at h), (List.dropLast_concat_getLast _).symm⟩
    rw [valU_snoc]
    rw [List.all_append, Bool.and_eq_true] at ha
    have h1 := ih m (by simp at h; omega) ha.1
    have h2 : dig u = true := by simpa using ha.2
    have h3 : 48 ≤ u ∧ u ≤ 57 := by simpa [dig] using h2
    rw [Nat.pow_succ]
    omega

theorem at_unit (s : ByteArray) (i u : Nat) (w : World) (hs : s.size ≤ 100000000) (h : (unpack s.data.toList)[i]? = some u) (hn : 2 * i + 1 < s.size) :
    Calls Tryz.prog 58 #[.string s, .int .i64 i] w fun e w' => e = .returned (.int .u16 (u : Int)) ∧ Below w.heap.size w w' := by
  refine (at_str s i w hs hn).mono fun e w' ⟨he, n, hw⟩ => ?_
  subst hw
  refine ⟨?_, ⟨rfl, rfl, rfl, Nat.le_refl _, fun _ _ => rfl⟩⟩
  rw [he]
  have hg := unpack_get s.data.toList i (by rw [← Lib.size_eq]; exact hn)
  rw [h] at hg
  have e := Option.some.inj hg
  rw [e]
  rfl

set_option maxHeartbeats 1000000 in
set_option maxRecDepth 100000 in
theorem index_front (s : ByteArray) (n : Nat) (w : World) (hs : s.size ≤ 100000000) (hn : s.size = 2 * n) (hf : frontU (unpack s.data.toList) = false) :
    Calls Tryz.prog 37 #[.string s] w fun e w' => e = .returned (.tuple #[.int .u32 0, .bool false]) ∧ Below w.heap.size w w' := by
  have hlen := unpack_length n s.data.toList (by rw [← Lib.size_eq]; exact hn)
  by_cases h0 : n = 0
  · subst h0
    go_enter Tryz.func37, Tryz.ntmps37
    go_wp2
    go_ret2
    exact ⟨rfl, Below.refl _ _⟩
  · by_cases h1 : 10 < n
    · have g1 : (20 : Int) < (s.size : Int) := by omega
      have g0 : ((s.size : Int) == 0) = false := by rw [beq_eq_false_iff_ne]; omega
      go_enter Tryz.func37, Tryz.ntmps37
      go_wp2
      go_ret2
      exact ⟨rfl, Below.refl _ _⟩
    · have hh : (unpack s.data.toList).head? = some 48 ∧ 1 < n := by
        unfold frontU at hf
        rw [decide_eq_false_iff_not] at hf
        apply Classical.byContradiction
        intro hx
        apply hf
        refine ⟨?_, by omega, fun hh => ?_⟩
        · intro h; rw [h] at hlen; simp at hlen; omega
        · apply Classical.byContradiction; intro hy; exact hx ⟨hh, by omega⟩
      have hu0 : (unpack s.data.toList)[0]? = some 48 := by rw [← List.head?_eq_getElem?]; exact hh.1
      have HA := Lib.hid (at_unit s 0 48 w hs hu0 (by omega))
      have g1 : (s.size : Int) ≤ 20 := by omega
      have g2 : (2 : Int) < (s.size : Int) := by omega
      have g0 : ((s.size : Int) == 0) = false := by rw [beq_eq_false_iff_ne]; omega
      clear hh hu0 hf hlen hn
      go_enter Tryz.func37, Tryz.ntmps37
      go_wp2_with (go_at_call 58; refine HA.out.mono ?_; rintro e w1 ⟨rfl, hb⟩)
      go_ret2
      exact ⟨rfl, hb⟩

theorem take_snoc_u {U : List Nat} {j u : Nat} (h : U[j]? = some u) : U.take (j + 1) = U.take j ++ [u] := by rw [List.take_add_one, h]; rfl
theorem head_ne {l : List Nat} {u : Nat} (h : l[0]? = some u) (hf : frontU l = true) : u = 48 → l.length ≤ 1 := by
  intro hu
  unfold frontU at hf
  rw [decide_eq_true_iff] at hf
  exact hf.2.2 (by rw [List.head?_eq_getElem?, h, hu])

set_option maxHeartbeats 2000000 in
set_option maxRecDepth 100000 in
theorem index_back (s : ByteArray) (n : Nat) (w : World) (hs : s.size ≤ 100000000) (hn : s.size = 2 * n) (hf : frontU (unpack s.data.toList) = true) :
    Calls Tryz.prog 37 #[.string s] w fun e w' => (∃ v, e = .returned (.tuple #[.int .u32 v, .bool (okU (unpack s.data.toList))])) ∧ Below w.heap.size w w' := by
  have hlen := unpack_length n s.data.toList (by rw [← Lib.size_eq]; exact hn)
  obtain ⟨U, hU⟩ : ∃ U, U = unpack s.data.toList := ⟨_, rfl⟩
  have hat : ∀ (i u : Nat) (W : World), U[i]? = some u → Calls Tryz.prog 58 #[.string s, .int .i64 i] W fun e w' => e = .returned (.int .u16 (u : Int)) ∧ Below W.heap.size W w' := fun i u W h => by
    have hi : i < U.length := (List.getElem?_eq_some_iff.1 h).1
    rw [hU] at h hi
    exact at_unit s i u W hs h (by omega)
  have HAT := Lib.hid hat
  clear hat
  rw [← hU] at hf hlen ⊢
  have hb : 1 ≤ n ∧ n ≤ 10 := by
    have h := hf
    unfold frontU at h
    rw [decide_eq_true_iff] at h
    refine ⟨?_, by omega⟩
    apply Classical.byContradiction
    intro h0
    exact h.1 (List.eq_nil_of_length_eq_zero (by omega))
  obtain ⟨u0, hu0⟩ : ∃ u0, U[0]? = some u0 := ⟨U[0], List.getElem?_eq_getElem (by omega)⟩
  have hhd := head_ne hu0 hf
  have HHD := Lib.hid hhd
  have HU0 := Lib.hid hu0
  have HN := Lib.hid hn
  have HL := Lib.hid hlen
  have HF := Lib.hid hf
  obtain ⟨hb1, hb2⟩ := hb
  have hlt : ∀ u ∈ U, u < 65536 := by rw [hU]; exact unpack_lt _
  have HLT := Lib.hid hlt
  have g1 : (s.size : Int) ≤ 20 := by omega
  have g0 : ((s.size : Int) == 0) = false := by rw [beq_eq_false_iff_ne]; omega
  have g3 : s.size / 2 ≤ n := by omega
  have g4 : n ≤ s.size / 2 := by omega
  have hcut : (((u0 : Int) == 48) = false) ∨ (((u0 : Int) == 48) = true ∧ (s.size : Int) ≤ 2) := by
    by_cases h : u0 = 48
    · right
      have := hhd h
      subst h
      exact ⟨rfl, by omega⟩
    · left
      rw [beq_eq_false_iff_ne]; omega
  clear hhd hu0 hn hlen hf hlt hU
  rcases hcut with hcut | ⟨hcut, hcut2⟩
  all_goals
    go_enter Tryz.func37, Tryz.ntmps37
    go_wp2_with (first | (go_at_call 58; refine (HAT.out 0 u0 _ HU0.out).mono ?_; rintro e w1 ⟨rfl, hb0⟩) | (go_at_call 59; refine (len_any s _ hs).mono ?_; rintro e w' ⟨rfl, rfl⟩))
    clear hcut
    go_loopw [4, 27] (fun nv iv wr => ∃ j : Nat, j ≤ n ∧ iv = .int .i64 j ∧ nv = .int .u64 (valU (U.take j) : Nat) ∧ Hid ((U.take j).all dig = true) ∧ Below w.heap.size w wr)
      (fun _ iv _ => n - (intOf iv).toNat)
    case atStart => exact ⟨0, Nat.zero_le _, rfl, rfl, rfl, hb0⟩
    case round =>
      obtain ⟨j, hj, rfl, rfl, HD, hB⟩ := hrel
      have hV := valU_lt j (U.take j) (by rw [List.length_take, HL.out]; omega) HD.out
      have hV2 : valU (U.take j) < 10 ^ 10 := Nat.lt_of_lt_of_le hV (Nat.pow_le_pow_right (by decide) (by omega))
      obtain ⟨V, hVe⟩ : ∃ V, V = valU (U.take j) := ⟨_, rfl⟩
      rw [← hVe] at hV2 ⊢
      have HV := Lib.hid hVe
      have hV3 : (V : Int) ≤ 9999999999 := by omega
      clear hV hV2 hVe
      by_cases hlt : j < n
      · obtain ⟨u, hu⟩ : ∃ u, U[j]? = some u := ⟨U[j]'(by rw [HL.out]; omega), List.getElem?_eq_getElem _⟩
        have hu2 := HLT.out u (List.mem_of_getElem? hu)
        have Hu := Lib.hid hu
        have q1 : (j : Int) < (s.size : Int) / 2 := by omega
        clear hu
        by_cases hd : 48 ≤ u ∧ u ≤ 57
        · have d1 : (48 : Int) ≤ (u : Int) := by omega
          have d2 : (u : Int) ≤ 57 := by omega
          have hdd := hd
          clear hd
          have HDD := Lib.hid hdd
          clear hdd
          go_wp2_with (go_at_call 58; refine (HAT.out j u _ Hu.out).mono ?_; rintro e w2 ⟨rfl, hb2⟩)
          go_roundw
          case rel =>
            have ht := take_snoc_u Hu.out
            have hg := HDD.out
            refine ⟨j + 1, by omega, by go_num, ?_, ?_, hB.trans (hb2.mono hB.size)⟩
            · rw [ht, valU_snoc, ← HV.out]
              congr 1
              omega
            · show ((U.take (j + 1)).all dig = true)
              rw [ht, List.all_append, HD.out]
              simp [dig, hg]
          case measure => simp [intOf]; omega
        · have hno : okU U = false := by
            apply Bool.eq_false_iff.2
            intro hk
            unfold okU at hk
            rw [Bool.and_eq_true, Bool.and_eq_true, List.all_eq_true] at hk
            have h1 := hk.1.2 u (List.mem_of_getElem? Hu.out)
            unfold dig at h1
            exact hd (of_decide_eq_true h1)
          have HNO := Lib.hid hno
          clear hno
          by_cases hd1 : u < 48
          · have d1 : (u : Int) < 48 := by omega
            clear hd
            go_wp2_with (go_at_call 58; refine (HAT.out j u _ Hu.out).mono ?_; rintro e w2 ⟨rfl, hb2⟩)
            go_ret2
            rw [HNO.out]
            exact ⟨⟨_, rfl⟩, hB.trans (hb2.mono hB.size)⟩
          · have d1 : (48 : Int) ≤ (u : Int) := by omega
            have d2 : (57 : Int) < (u : Int) := by omega
            clear hd hd1
            go_wp2_with (go_at_call 58; refine (HAT.out j u _ Hu.out).mono ?_; rintro e w2 ⟨rfl, hb2⟩)
            go_ret2
            rw [HNO.out]
            exact ⟨⟨_, rfl⟩, hB.trans (hb2.mono hB.size)⟩
      · have hjn : j = n := by omega
        have hyes : okU U = decide ((V : Int) < 4294967295) := by
          have ht : U.take j = U := List.take_of_length_le (by rw [HL.out]; omega)
          have h1 := HD.out
          rw [ht] at h1
          have h2 := HV.out
          rw [ht] at h2
          unfold okU
          rw [HF.out, h1, ← h2]
          simp only [Bool.true_and]
          exact decide_eq_decide.2 (by omega)
        have HY := Lib.hid hyes
        clear hyes hjn
        have q1 : (s.size : Int) / 2 ≤ (j : Int) := by omega
        go_wp2
        go_ret2
        rw [HY.out]
        exact ⟨⟨_, rfl⟩, hB⟩

theorem index_any (s : ByteArray) (n : Nat) (w : World) (hs : s.size ≤ 100000000) (hn : s.size = 2 * n) :
    Calls Tryz.prog 37 #[.string s] w fun e w' => (∃ v, e = .returned (.tuple #[.int .u32 v, .bool (okU (unpack s.data.toList))])) ∧ Below w.heap.size w w' := by
  cases hf : frontU (unpack s.data.toList) with
  | true => exact index_back s n w hs hn hf
  | false =>
    refine (index_front s n w hs hn hf).mono fun e w' ⟨he, hb⟩ => ⟨⟨0, ?_⟩, hb⟩
    rw [he]
    unfold okU
    rw [hf]
    rfl
end Go.Proofs.YtlacgdnidilndaaGreatDoor
