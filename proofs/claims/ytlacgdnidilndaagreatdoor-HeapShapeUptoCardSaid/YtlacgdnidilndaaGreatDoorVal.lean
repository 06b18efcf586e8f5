/- Values and flags out of plain data: contracts of objects.value, flags, the look at a function. -/
import Derived.Test.YtlacgdnidilndaaGreatDoorLaws
import Derived.Test.YtlacgdnidilndaaGreatDoorRp
import Derived.Test.YtlacgdnidilndaaGreatDoorTold
namespace Go.Proofs.YtlacgdnidilndaaGreatDoor
open Go.RowKit
open Go.Proofs (Tryz.prog)

set_option maxHeartbeats 1000000 in
set_option maxRecDepth 100000 in
theorem value_none (h : Value) (w : World) :
    Calls Tryz.prog 42 #[h, .agg #[.int .i64 0, .float .f64 0, .string ⟨#[]⟩, .int .i64 0]] w fun e w' => e = .returned (.tuple #[.agg #[.int .u8 0, .int .i32 0, .float .f64 0, .string ⟨#[]⟩], .bool true]) ∧ Below w.heap.size w w' := by
  go_enter Tryz.func42, Tryz.ntmps42
  go_wp2
  refine bodyPost_ret (v := .tuple #[.agg #[.int .u8 0, .int .i32 0, .float .f64 0, .string ⟨#[]⟩], .bool true]) (by simp [results, Tryz.results42, go_sem]) rfl ⟨rfl, ?_⟩
  exact ((Below.refl _ _).alloc (Nat.le_refl _) _).alloc (by simp) _
set_option maxHeartbeats 1000000 in
set_option maxRecDepth 100000 in
theorem num_any (x : Nat) (w : World) :
    Calls Tryz.prog 62 #[.float .f64 x] w fun e w' => e = .returned (.agg #[.int .u8 3, .int .i32 0, .float .f64 x, .string ⟨#[]⟩]) ∧ Below w.heap.size w w' := by
  go_enter Tryz.func62, Tryz.ntmps62
  go_wp2
  refine bodyPost_ret (v := .agg #[.int .u8 3, .int .i32 0, .float .f64 x, .string ⟨#[]⟩]) (by simp [results, Tryz.results62, go_sem]) rfl ⟨rfl, ?_⟩
  exact (Below.refl _ _).alloc (Nat.le_refl _) _
set_option maxHeartbeats 1000000 in
set_option maxRecDepth 100000 in
theorem str_any (s : ByteArray) (w : World) :
    Calls Tryz.prog 83 #[.string s] w fun e w' => e = .returned (.agg #[.int .u8 4, .int .i32 0, .float .f64 0, .string s]) ∧ Below w.heap.size w w' := by
  go_enter Tryz.func83, Tryz.ntmps83
  go_wp2
  refine bodyPost_ret (v := .agg #[.int .u8 4, .int .i32 0, .float .f64 0, .string s]) (by simp [results, Tryz.results83, go_sem]) rfl ⟨rfl, ?_⟩
  exact (Below.refl _ _).alloc (Nat.le_refl _) _
set_option maxHeartbeats 1000000 in
set_option maxRecDepth 100000 in
theorem text_val (s : ByteArray) (w : World) (hs : s.size ≤ 2097152) (hT : ∀ W, Below w.heap.size w W → Lib.Utf8Tabs 2 3 W) :
    Calls Tryz.prog 63 #[.string s] w fun e w' => e = .returned (.agg #[.int .u8 4, .int .i32 0, .float .f64 0, .string (keyOf s)]) ∧ Below w.heap.size w w' := by
  have HF : ∀ W, Below w.heap.size w W → Hid (Calls Tryz.prog 25 #[.string s] W fun e w' => e = .returned (.string (keyOf s)) ∧ Below W.heap.size W w') := fun W hB => Lib.hid (of_any s W hs (hT W hB))
  have HF := Lib.hid HF
  clear hT hs
  go_enter Tryz.func63, Tryz.ntmps63
  go_wp2_with (first
    | (go_at_call 25; refine (HF.out _ ((Below.refl _ _).alloc (Nat.le_refl _) _)).out.mono ?_; rintro e w1 ⟨rfl, hb1⟩)
    | (go_at_call 83; refine (str_any _ _).mono ?_; rintro e w2 ⟨rfl, hb2⟩; have lz : w.heap.size < w1.heap.size := Nat.lt_of_lt_of_le (by simp) hb1.size; have E2 := Lib.hid ((hb2.block w.heap.size lz).trans ((hb1.block w.heap.size (by simp)).trans (heap_new _ _))))
    | (refine wpList_store_row rfl 64 (.tmp 2) (.tmp 5) rfl w.heap.size _ rfl rfl 64 _ E2.out (by kernel_rfl) rfl (by simp [Value.oneCell']) ?_))
  refine bodyPost_ret (results_cell_row rfl _ _ w.heap.size 64 _ (0, 0) _ rfl (setRow_heap _ _ _ _ _ _ E2.out) Tryz.underlying64 rfl (by kernel_rfl)) rfl ⟨rfl, ?_⟩
  refine below_setRow ?_ (Nat.le_refl _) _
  exact (((Below.refl _ _).alloc (Nat.le_refl _) _).trans (hb1.mono (by simp))).trans (hb2.mono (Nat.le_of_lt lz))

set_option maxHeartbeats 1000000 in
set_option maxRecDepth 100000 in
theorem value_num (h : Value) (x : Nat) (w : World) :
    Calls Tryz.prog 42 #[h, .agg #[.int .i64 3, .float .f64 x, .string ⟨#[]⟩, .int .i64 0]] w fun e w' => e = .returned (.tuple #[.agg #[.int .u8 3, .int .i32 0, .float .f64 x, .string ⟨#[]⟩], .bool true]) ∧ Below w.heap.size w w' := by
  go_enter Tryz.func42, Tryz.ntmps42
  go_wp2_with (first
    | (go_at_call 62; refine (num_any _ _).mono ?_; rintro e w2 ⟨rfl, hb2⟩; have E2 := Lib.hid ((hb2.block (w.heap.size + 1) (by simp)).trans (by rw [heap_of_alloc, if_pos (by simp)])))
    | (refine wpList_store_row rfl 64 (.tmp 4) (.tmp 25) rfl (w.heap.size + 1) _ rfl rfl 64 _ E2.out (by kernel_rfl) rfl (by simp [Value.oneCell']) ?_))
  refine bodyPost_ret (results_cell_tmp rfl _ _ (w.heap.size + 1) 64 _ (0, 0) _ _ rfl rfl (setRow_heap _ _ _ _ _ _ E2.out) Tryz.underlying64 rfl (by kernel_rfl)) rfl ⟨rfl, ?_⟩
  refine below_setRow ?_ (by omega) _
  exact (((Below.refl _ _).alloc (Nat.le_refl _) _).alloc (by simp) _).trans (hb2.mono (by simp; omega))
set_option maxHeartbeats 1000000 in
set_option maxRecDepth 100000 in
theorem value_text (h : Value) (s : ByteArray) (w : World) (hs : s.size ≤ 2097152) (hT : ∀ W, Below w.heap.size w W → Lib.Utf8Tabs 2 3 W) :
    Calls Tryz.prog 42 #[h, .agg #[.int .i64 4, .float .f64 0, .string s, .int .i64 0]] w fun e w' => e = .returned (.tuple #[.agg #[.int .u8 4, .int .i32 0, .float .f64 0, .string (keyOf s)], .bool true]) ∧ Below w.heap.size w w' := by
  have b0 : Below w.heap.size w ((w.alloc (.cells #[.int .i64 4, .float .f64 0, .string s, .int .i64 0] 31)).alloc (.cells #[.int .u8 0, .int .i32 0, .float .f64 0, .string ⟨#[]⟩] 64)) := ((Below.refl _ _).alloc (Nat.le_refl _) _).alloc (by simp) _
  have HF := Lib.hid (text_val s ((w.alloc (.cells #[.int .i64 4, .float .f64 0, .string s, .int .i64 0] 31)).alloc (.cells #[.int .u8 0, .int .i32 0, .float .f64 0, .string ⟨#[]⟩] 64)) hs (fun W hW => hT W (b0.trans (hW.mono (by simp; omega)))))
  have B0 := Lib.hid b0
  clear hT hs b0
  go_enter Tryz.func42, Tryz.ntmps42
  go_wp2_with (first
    | (go_at_call 63; refine HF.out.mono ?_; rintro e w2 ⟨rfl, hb2⟩; have E2 := Lib.hid ((hb2.block (w.heap.size + 1) (by simp)).trans (by rw [heap_of_alloc, if_pos (by simp)])))
    | (refine wpList_store_row rfl 64 (.tmp 4) (.tmp 30) rfl (w.heap.size + 1) _ rfl rfl 64 _ E2.out (by kernel_rfl) rfl (by simp [Value.oneCell']) ?_))
  refine bodyPost_ret (results_cell_tmp rfl _ _ (w.heap.size + 1) 64 _ (0, 0) _ _ rfl rfl (setRow_heap _ _ _ _ _ _ E2.out) Tryz.underlying64 rfl (by kernel_rfl)) rfl ⟨rfl, ?_⟩
  refine below_setRow ?_ (by omega) _
  exact B0.out.trans (hb2.mono (by simp; omega))

set_option maxHeartbeats 1000000 in
set_option maxRecDepth 100000 in
theorem flags_any (g : Nat) (w : World) (h0 : w.cell? ⟨g, 0, none⟩ = some (.bool true)) (h1 : w.cell? ⟨g, 1, none⟩ = some (.bool true)) (h2 : w.cell? ⟨g, 2, none⟩ = some (.bool true)) :
    Calls Tryz.prog 44 #[.slice (some ⟨g, 0, none⟩) 3 3] w fun e w' => e = .returned (.int .u8 7) ∧ w = w' := by
  go_enter Tryz.func44, Tryz.ntmps44
  go_wp2
  go_rounds 4
  go_ret
  exact ⟨ret_int (by kernel_rfl), rfl⟩

set_option maxHeartbeats 1000000 in
set_option maxRecDepth 100000 in
theorem known_zero (b : Nat) (w : World) :
    Calls Tryz.prog 43 #[.int .i64 0, .pointer (some ⟨b, 0, none⟩)] w fun e w' => e = .returned (.bool true) ∧ ∃ n, w' = w.drewN n := by
  go_enter Tryz.func43, Tryz.ntmps43
  go_wp2_with fail
  go_quiet (fail)
  go_wp2
  go_ret
  exact ⟨rfl, nq, rfl⟩
end Go.Proofs.YtlacgdnidilndaaGreatDoor
