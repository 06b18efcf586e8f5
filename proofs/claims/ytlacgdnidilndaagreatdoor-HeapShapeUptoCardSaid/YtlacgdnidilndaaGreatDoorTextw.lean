/- The text of a key: contracts of units.high, low, Text, Str.List, Str.String. -/
import Derived.Test.YtlacgdnidilndaaGreatDoorText
import Derived.Test.YtlacgdnidilndaaGreatDoorRp
namespace Go.Proofs.YtlacgdnidilndaaGreatDoor
open Go.RowKit
open Go.Proofs (Tryz.prog)

theorem ret_bool {a b : Bool} (h : a = b) : Ending.returned (.bool a) = .returned (.bool b) := by rw [h]
set_option maxHeartbeats 400000 in
theorem high_any (u : Nat) (w : World) (hu : u < 65536) :
    Calls Tryz.prog 73 #[.int .u16 u] w fun e w' => e = .returned (.bool (hiU u)) ∧ w = w' := by
  have f : bits BinOp.and IntKind.u16 (u : Int) 64512 = ((u &&& 64512 : Nat) : Int) := u16_and_nat u 64512 hu (by omega)
  have H := Lib.hid (hi_and u hu)
  have F := Lib.hid f
  clear f
  go_enter Tryz.func73, Tryz.ntmps73
  go_wp2
  go_ret
  refine ⟨ret_bool ?_, rfl⟩
  rw [F.out]
  by_cases h : u &&& 64512 = 55296
  · rw [H.out.1 h, h]; rfl
  · have h2 : hiU u = false := Bool.eq_false_iff.2 fun hh => h (H.out.2 hh)
    rw [h2, beq_eq_false_iff_ne]
    omega
set_option maxHeartbeats 400000 in
theorem low_any (u : Nat) (w : World) (hu : u < 65536) :
    Calls Tryz.prog 74 #[.int .u16 u] w fun e w' => e = .returned (.bool (loU u)) ∧ w = w' := by
  have f : bits BinOp.and IntKind.u16 (u : Int) 64512 = ((u &&& 64512 : Nat) : Int) := u16_and_nat u 64512 hu (by omega)
  have H := Lib.hid (lo_and u hu)
  have F := Lib.hid f
  clear f
  go_enter Tryz.func74, Tryz.ntmps74
  go_wp2
  go_ret
  refine ⟨ret_bool ?_, rfl⟩
  rw [F.out]
  by_cases h : u &&& 64512 = 56320
  · rw [H.out.1 h, h]; rfl
  · have h2 : loU u = false := Bool.eq_false_iff.2 fun hh => h (H.out.2 hh)
    rw [h2, beq_eq_false_iff_ne]
    omega

set_option maxHeartbeats 2000000 in
set_option maxRecDepth 100000 in
theorem list_any (s : ByteArray) (n : Nat) (w : World) (hs : s.size ≤ 4194304) (hn : s.size = 2 * n) :
    Calls Tryz.prog 53 #[.string s] w fun e w' => ∃ g, e = .returned (.slice (some ⟨g, 0, none⟩) n n) ∧ (∀ (j u : Nat), (unpack s.data.toList)[j]? = some u → w'.cell? ⟨g, j, none⟩ = some (.int .u16 (u : Int))) ∧ g < w'.heap.size ∧ w.heap.size ≤ g ∧ Below w.heap.size w w' := by
  obtain ⟨i0, hi, hz0, hz1, hz2⟩ := info_parts info61
  have hmk := run_make (P := Tryz.prog) (w := w) 58 61 i0 (.int .u16 0) Tryz.underlying58 hi hz0 .i64 .i64 (n : Int) (n : Int) (by omega) (by omega) (by rw [hz2]; omega) (by omega)
  rw [hz1, show ((n : Int)).toNat = n by omega, Nat.mul_one] at hmk
  obtain ⟨C, hC⟩ : ∃ C, C = madeCells (Value.cells (.int .u16 0)) n := ⟨_, rfl⟩
  have hCs : C.size = n ∧ ∀ j, j < n → C[j]? = some (.int .u16 0) := by
    rw [hC]
    refine ⟨size_madeCells _ _, fun j hj => ?_⟩
    simp [madeCells, Value.cells, hj, Nat.mod_one]
  rw [← hC] at hmk
  have HCs := Lib.hid hCs
  have hlen := unpack_length n s.data.toList (by rw [← Lib.size_eq]; exact hn)
  have HL := Lib.hid hlen
  have HN := Lib.hid hn
  have hsz : ((s.size / 2 : Nat) : Int) = (n : Int) := by omega
  have HSZ := Lib.hid hsz
  clear hCs hC hlen hn hsz
  go_enter Tryz.func53, Tryz.ntmps53
  go_wp2_with (go_at_call 59; refine (len_any s _ (by omega)).mono ?_; rintro e w' ⟨rfl, rfl⟩; rw [HSZ.out])
  clear hmk
  go_loopw [10] (fun i wr => ∃ k : Nat, k ≤ n ∧ i = .int .i64 k ∧ Hid (∀ j, j < n → wr.cell? ⟨w.heap.size, j, none⟩ = some (.int .u16 (((if j < k then (unpack s.data.toList).getD j 0 else 0) : Nat) : Int)) ∧ wr.frozen? ⟨w.heap.size, j, none⟩ = false) ∧ Below w.heap.size w wr ∧ w.heap.size < wr.heap.size)
    (fun i _ => n - (intOf i).toNat)
  case atStart =>
    refine ⟨0, Nat.zero_le _, rfl, fun j hj => ?_, (Below.refl _ _).alloc (Nat.le_refl _) _, by simp⟩
    rw [if_neg (by omega)]
    refine ⟨?_, ?_⟩
    · rw [World.cell?_alloc_mark, HCs.out.2 j hj]; rfl
    · have h := heap_alloc_new w (.cells C 61)
      simp only [World.frozen?, h]
      simp
  case round =>
    obtain ⟨k, hk, rfl, HR, hB, hsz⟩ := hrel
    by_cases hlt : k < n
    · obtain ⟨u, hu⟩ : ∃ u, (unpack s.data.toList)[k]? = some u := ⟨(unpack s.data.toList)[k]'(by rw [HL.out]; omega), List.getElem?_eq_getElem _⟩
      have Hu := Lib.hid hu
      have q1 : 2 * k + 1 < s.size := by have := HN.out; omega
      have HA : Hid (∀ W : World, Calls Tryz.prog 58 #[.string s, .int .i64 k] W fun e w' => e = .returned (.int .u16 (u : Int)) ∧ Below W.heap.size W w') := fun W => at_unit s k u W (by omega) hu q1
      have hc1 := (HR.out k hlt).1
      have hf1 := (HR.out k hlt).2
      have HB := Lib.hid hB
      clear hu
      go_wp2_with fail
      go_at_call 58
      refine (HA.out wr).mono ?_
      rintro e w1 ⟨rfl, hb1⟩
      have hc2 : w1.cell? ⟨w.heap.size, k, none⟩ = some (.int .u16 (((if k < k then (unpack s.data.toList).getD k 0 else 0) : Nat) : Int)) := (hb1.cell (p := ⟨w.heap.size, k, none⟩) hsz).trans hc1
      have hf2 : w1.frozen? ⟨w.heap.size, k, none⟩ = false := (hb1.frozen (p := ⟨w.heap.size, k, none⟩) hsz).trans hf1
      have hsz1 : w.heap.size < w1.heap.size := Nat.lt_of_lt_of_le hsz hb1.size
      have Hc2 := Lib.hid hc2
      go_wp2
      go_roundw
      case rel =>
        refine ⟨k + 1, by omega, by go_num, fun j hj => ?_, (HB.out.trans (hb1.mono HB.out.size)).setCell (Nat.le_refl _) _, by simpa using hsz1⟩
        have hr := HR.out j hj
        refine ⟨?_, by rw [World.frozen?_setCell]; exact (hb1.frozen (p := ⟨w.heap.size, j, none⟩) hsz).trans hr.2⟩
        by_cases hj2 : j = k
        · subst hj2
          rw [World.cell?_setCell_same _ _ _ Hc2.out, if_pos (by omega)]
          have e : (unpack s.data.toList).getD j 0 = u := by rw [List.getD, Hu.out]; rfl
          rw [e]
        · rw [World.cell?_setCell_other _ _ _ _ (by intro h; exact hj2 (congrArg Addr.off h).symm), (hb1.cell (p := ⟨w.heap.size, j, none⟩) hsz).trans hr.1]
          by_cases h1 : j < k
          · rw [if_pos h1, if_pos (by omega)]
          · rw [if_neg h1, if_neg (by omega)]
      case measure => simp [intOf]; omega
    · have hk2 : k = n := by omega
      have HK := Lib.hid hk2
      clear hk2
      go_wp2
      go_ret
      refine ⟨w.heap.size, rfl, fun j u hj => ?_, hsz, Nat.le_refl _, hB⟩
      have hjl : j < n := by rw [← HL.out]; exact (List.getElem?_eq_some_iff.1 hj).1
      have hr := (HR.out j hjl).1
      rw [if_pos (by have := HK.out; omega)] at hr
      rw [hr]
      have e : (unpack s.data.toList).getD j 0 = u := by rw [List.getD, hj]; rfl
      rw [e]
end Go.Proofs.YtlacgdnidilndaaGreatDoor
