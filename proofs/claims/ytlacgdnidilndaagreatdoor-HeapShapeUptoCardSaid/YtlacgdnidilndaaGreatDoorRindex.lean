/- The answer's word on a key that is a place: contract of ecmacoreref4.Index. -/
import Derived.Test.YtlacgdnidilndaaGreatDoorIndex
namespace Go.Proofs.YtlacgdnidilndaaGreatDoor
open Go.RowKit
open Go.Proofs (Tryz.prog)

def ridx (U : List Nat) : Int := if okU U = true then (valU U : Int) else -1
theorem ridx_no {U : List Nat} (h : okU U = false) : ridx U = -1 := by unfold ridx; rw [h]; rfl
theorem okU_front {U : List Nat} (h : frontU U = false) : okU U = false := by unfold okU; rw [h]; rfl

theorem row_cells {w : World} {B : Nat} {g n cap : Nat} {U : List Nat} (hown : w.ownsRow B 61 1 (.slice (some ⟨g, 0, none⟩) n cap) n (u16s U)) : ∀ i u : Nat, U[i]? = some u → w.cell? ⟨g, i, none⟩ = some (.int .u16 (u : Int)) := by
  intro i u h
  have h1 := hown.cells (g := g) rfl i (.int .u16 (u : Int)) (by simp [u16s, h])
  have hadd : (⟨g, 0, none⟩ : Addr).add i = ⟨g, i, none⟩ := by unfold Addr.add; split <;> simp_all
  rw [← hadd]; exact h1

set_option maxHeartbeats 2000000 in
set_option maxRecDepth 100000 in
theorem rindex_front (p : ByteArray) (n : Nat) (w : World) (hs : p.size ≤ 4194304) (hn : p.size = 2 * n) (hf : frontU (unpack p.data.toList) = false) :
    Calls Tryz.prog 8 #[.string p] w fun e w' => e = .returned (.int .i64 (-1)) ∧ Below w.heap.size w w' := by
  have hlen := unpack_length n p.data.toList (by rw [← Lib.size_eq]; exact hn)
  have HP := Lib.hid (runpack_any p n w hn hs)
  by_cases h0 : n = 0
  · subst h0
    clear hlen hf hn
    go_enter Tryz.func8, Tryz.ntmps8
    go_wp2_with fail
    go_at_call 23
    refine HP.out.mono ?_
    rintro e w1 ⟨v, rfl, hown, hb⟩
    rcases hown.2 with ⟨rfl, _⟩ | ⟨g, cap, cur, rfl, _⟩
    all_goals
      clear hown
      go_wp2
      go_ret
      exact ⟨rfl, hb⟩
  · by_cases h1 : 10 < n
    · have g1 : (10 : Int) < (n : Int) := by omega
      have g0 : ((n : Int) == 0) = false := by rw [beq_eq_false_iff_ne]; omega
      clear hlen hf hn
      go_enter Tryz.func8, Tryz.ntmps8
      go_wp2_with fail
      go_at_call 23
      refine HP.out.mono ?_
      rintro e w1 ⟨v, rfl, hown, hb⟩
      obtain ⟨g, cap, rfl, _, _⟩ := hown.form (by omega)
      clear hown
      go_wp2
      go_ret
      exact ⟨rfl, hb⟩
    · have hh : (unpack p.data.toList).head? = some 48 ∧ 1 < n := by
        unfold frontU at hf
        rw [decide_eq_false_iff_not] at hf
        apply Classical.byContradiction
        intro hx
        apply hf
        refine ⟨?_, by omega, fun hh => ?_⟩
        · intro h; rw [h] at hlen; simp at hlen; omega
        · apply Classical.byContradiction; intro hy; exact hx ⟨hh, by omega⟩
      have hu0 : (unpack p.data.toList)[0]? = some 48 := by rw [← List.head?_eq_getElem?]; exact hh.1
      have HU0 := Lib.hid hu0
      have g1 : (n : Int) ≤ 10 := by omega
      have g2 : (1 : Int) < (n : Int) := by omega
      have g0 : ((n : Int) == 0) = false := by rw [beq_eq_false_iff_ne]; omega
      clear hh hu0 hf hlen hn
      go_enter Tryz.func8, Tryz.ntmps8
      go_wp2_with fail
      go_at_call 23
      refine HP.out.mono ?_
      rintro e w1 ⟨v, rfl, hown, hb⟩
      obtain ⟨g, cap, rfl, _, _⟩ := hown.form (by omega)
      have hc0 : w1.cell? ⟨g, 0, none⟩ = some (.int .u16 48) := row_cells hown 0 48 HU0.out
      clear hown
      go_wp2
      go_ret
      exact ⟨rfl, hb⟩

set_option maxHeartbeats 2000000 in
set_option maxRecDepth 100000 in
theorem rindex_back (p : ByteArray) (n : Nat) (w : World) (hs : p.size ≤ 4194304) (hn : p.size = 2 * n) (hf : frontU (unpack p.data.toList) = true) :
    Calls Tryz.prog 8 #[.string p] w fun e w' => e = .returned (.int .i64 (ridx (unpack p.data.toList))) ∧ Below w.heap.size w w' := by
  have hlen := unpack_length n p.data.toList (by rw [← Lib.size_eq]; exact hn)
  have HP := Lib.hid (runpack_any p n w hn hs)
  obtain ⟨U, hU⟩ : ∃ U, U = unpack p.data.toList := ⟨_, rfl⟩
  have hlt : ∀ u ∈ U, u < 65536 := by rw [hU]; exact unpack_lt _
  rw [← hU] at hf hlen HP ⊢
  have hb : 1 ≤ n ∧ n ≤ 10 := by
    have h := hf
    unfold frontU at h
    rw [decide_eq_true_iff] at h
    refine ⟨?_, by omega⟩
    apply Classical.byContradiction
    intro h0
    exact h.1 (List.eq_nil_of_length_eq_zero (by omega))
  obtain ⟨u0, hu0⟩ : ∃ u0, U[0]? = some u0 := ⟨U[0], List.getElem?_eq_getElem (by omega)⟩
  have hhd := head_ne hu0 hf
  have HU0 := Lib.hid hu0
  have HL := Lib.hid hlen
  have HF := Lib.hid hf
  obtain ⟨hb1, hb2⟩ := hb
  have HLT := Lib.hid hlt
  have g1 : (n : Int) ≤ 10 := by omega
  have g0 : ((n : Int) == 0) = false := by rw [beq_eq_false_iff_ne]; omega
  have hcut : (((u0 : Int) == 48) = false) ∨ (((u0 : Int) == 48) = true ∧ (n : Int) ≤ 1) := by
    by_cases h : u0 = 48
    · right
      have := hhd h
      subst h
      exact ⟨rfl, by omega⟩
    · left
      rw [beq_eq_false_iff_ne]; omega
  clear hhd hu0 hn hlen hf hlt hU
  rcases hcut with hcut | ⟨hcut, hcut2⟩
  all_goals
    go_enter Tryz.func8, Tryz.ntmps8
    go_wp2_with fail
    go_at_call 23
    refine HP.out.mono ?_
    rintro e w1 ⟨v, rfl, hown, hb0⟩
    obtain ⟨g, cap, rfl, _, _⟩ := hown.form (by omega)
    have hcells := row_cells hown
    have hc0 : w1.cell? ⟨g, 0, none⟩ = some (.int .u16 (u0 : Int)) := hcells 0 u0 HU0.out
    have HC := Lib.hid hcells
    clear hown hcells
    go_wp2
    clear hcut hc0
    go_loop [4, 5] (fun nv iv => ∃ j : Nat, j ≤ n ∧ iv = .int .i64 j ∧ nv = .int .i64 (valU (U.take j) : Nat) ∧ Hid ((U.take j).all dig = true))
      (fun _ iv => n - (intOf iv).toNat)
    case atStart => exact ⟨0, Nat.zero_le _, rfl, rfl, rfl⟩
    case round =>
      obtain ⟨j, hj, rfl, rfl, HD⟩ := hrel
      have hV := valU_lt j (U.take j) (by rw [List.length_take, HL.out]; omega) HD.out
      have hV2 : valU (U.take j) < 10 ^ 10 := Nat.lt_of_lt_of_le hV (Nat.pow_le_pow_right (by decide) (by omega))
      obtain ⟨V, hVe⟩ : ∃ V, V = valU (U.take j) := ⟨_, rfl⟩
      rw [← hVe] at hV2 ⊢
      have HV := Lib.hid hVe
      have hV3 : (V : Int) ≤ 9999999999 := by omega
      clear hV hV2 hVe
      by_cases hlt : j < n
      · obtain ⟨u, hu⟩ : ∃ u, U[j]? = some u := ⟨U[j]'(by rw [HL.out]; omega), List.getElem?_eq_getElem _⟩
        have hu2 := HLT.out u (List.mem_of_getElem? hu)
        have Hu := Lib.hid hu
        have hcj : w1.cell? ⟨g, j, none⟩ = some (.int .u16 (u : Int)) := HC.out j u hu
        clear hu
        by_cases hd : 48 ≤ u ∧ u ≤ 57
        · have d1 : (48 : Int) ≤ (u : Int) := by omega
          have d2 : (u : Int) ≤ 57 := by omega
          have HDD := Lib.hid hd
          clear hd
          go_wp2
          go_round
          case rel =>
            have ht := take_snoc_u Hu.out
            have hg := HDD.out
            refine ⟨j + 1, by omega, by go_num, ?_, ?_⟩
            · rw [ht, valU_snoc, ← HV.out]
              congr 1
              omega
            · show ((U.take (j + 1)).all dig = true)
              rw [ht, List.all_append, HD.out]
              simp [dig, hg]
          case measure => simp [intOf]; omega
        · have hno : okU U = false := by
            apply Bool.eq_false_iff.2
            intro hk
            unfold okU at hk
            rw [Bool.and_eq_true, Bool.and_eq_true, List.all_eq_true] at hk
            have h1 := hk.1.2 u (List.mem_of_getElem? Hu.out)
            unfold dig at h1
            exact hd (of_decide_eq_true h1)
          have HNO := Lib.hid hno
          clear hno
          by_cases hd1 : u < 48
          · have d1 : (u : Int) < 48 := by omega
            clear hd
            go_wp2
            go_ret
            rw [ridx_no HNO.out]
            exact ⟨rfl, hb0⟩
          · have d1 : (48 : Int) ≤ (u : Int) := by omega
            have d2 : (57 : Int) < (u : Int) := by omega
            clear hd hd1
            go_wp2
            go_ret
            rw [ridx_no HNO.out]
            exact ⟨rfl, hb0⟩
      · have hjn : j = n := by omega
        have hyes : okU U = decide (V < 4294967295) ∧ valU U = V := by
          have ht : U.take j = U := List.take_of_length_le (by rw [HL.out]; omega)
          have h1 := HD.out
          rw [ht] at h1
          have h2 := HV.out
          rw [ht] at h2
          refine ⟨?_, h2.symm⟩
          unfold okU
          rw [HF.out, h1, ← h2]
          rfl
        have HY := Lib.hid hyes
        clear hyes hjn
        by_cases hmax : V < 4294967295
        · have m1 : (V : Int) < 4294967295 := by omega
          have m2 : decide ((4294967295 : Int) ≤ (V : Int)) = false := by simp only [decide_eq_false_iff_not]; omega
          go_wp2
          go_ret
          refine ⟨ret_int ?_, hb0⟩
          unfold ridx
          rw [HY.out.1, HY.out.2, if_pos (by simpa using hmax)]
        · have m1 : (4294967295 : Int) ≤ (V : Int) := by omega
          go_wp2
          go_ret
          refine ⟨ret_int ?_, hb0⟩
          unfold ridx
          rw [HY.out.1, if_neg (by simpa using hmax)]

theorem rindex_any (p : ByteArray) (n : Nat) (w : World) (hs : p.size ≤ 4194304) (hn : p.size = 2 * n) :
    Calls Tryz.prog 8 #[.string p] w fun e w' => e = .returned (.int .i64 (ridx (unpack p.data.toList))) ∧ Below w.heap.size w w' := by
  cases hf : frontU (unpack p.data.toList) with
  | true => exact rindex_back p n w hs hn hf
  | false =>
    rw [ridx_no (okU_front hf)]
    exact rindex_front p n w hs hn hf
end Go.Proofs.YtlacgdnidilndaaGreatDoor
