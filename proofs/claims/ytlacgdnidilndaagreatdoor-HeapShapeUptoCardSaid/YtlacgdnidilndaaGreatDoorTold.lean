/- A property told in plain data: contracts of plain, told. -/
import Derived.Test.YtlacgdnidilndaaGreatDoorReads
import Derived.Test.YtlacgdnidilndaaGreatDoorTextx
import Derived.Test.YtlacgdnidilndaaGreatDoorMakest
import Derived.Laws.Rows
import Derived.Laws.Tables
namespace Go.Proofs.YtlacgdnidilndaaGreatDoor
open Go.RowKit
open Go.Proofs (Tryz.prog)

theorem below_setRow {B : Nat} {a w : World} (h : Below B a w) {g : Nat} (hg : B ≤ g) (cs : Array Value) : Below B a (w.setRow g cs) :=
  h.trans ⟨rfl, rfl, rfl, by simp, fun k hk => setRow_other _ _ _ _ (by omega)⟩
theorem far_heap {w : World} {b b' o' : Nat} {v : Value} (h : b ≠ b') : (w.setCell ⟨b', o', none⟩ v).heap[b]? = w.heap[b]? := Below.heap_setCell _ _ _ _ h
theorem far_cell {w : World} {b b' o o' : Nat} {v : Value} (h : b' ≠ b) : (w.setCell ⟨b', o', none⟩ v).cell? ⟨b, o, none⟩ = w.cell? ⟨b, o, none⟩ := World.cell?_setCell_other _ _ _ _ (fun e => h (congrArg Addr.block e))
set_option maxHeartbeats 4000000 in
set_option maxRecDepth 100000 in
theorem plain_any (kind ref : Int) (num : Nat) (s : ByteArray) (n : Nat) (w : World) (hs : s.size ≤ 4194304) (hn : s.size = 2 * n) (hk0 : 0 ≤ kind) (hk1 : kind < 256) (hr0 : 0 ≤ ref) (hr1 : ref < 100) :
    Calls Tryz.prog 41 #[.agg #[.int .u8 kind, .int .i32 ref, .float .f64 num, .string s]] w fun e w' => e = .returned (.agg #[.int .i64 kind, .float .f64 num, .string (showK s), .int .i64 ref]) ∧ Below w.heap.size w w' := by
  have HS : ∀ W, Hid (Calls Tryz.prog 29 #[.string s] W fun e w' => e = .returned (.string (showK s)) ∧ Below W.heap.size W w') := fun W => Lib.hid (string_any s n W hs hn)
  clear hs hn
  have hk : IntKind.i64.wrap kind = kind := IntWalk.i64_in _ (by omega)
  have hr : IntKind.i64.wrap ref = ref := IntWalk.i64_in _ (by omega)
  go_enter Tryz.func41, Tryz.ntmps41
  go_wp2_with fail
  go_region_held3 (fun w' => w'.cell? ⟨w.heap.size, 0, none⟩ = some (.int .u8 kind) ∧ w'.cell? ⟨w.heap.size, 1, none⟩ = some (.int .i32 ref) ∧ w'.cell? ⟨w.heap.size, 2, none⟩ = some (.float .f64 num) ∧ w'.cell? ⟨w.heap.size, 3, none⟩ = some (.string s)) (first | go_keep | (refine ⟨?_, ?_, ?_, ?_⟩ <;> (rw [hc _ _ (by simp; omega)]; go_simp)))
    (first
      | (go_at_call 29; refine (HS _).out.mono ?_; rintro e w1 ⟨rfl, hb⟩; obtain ⟨hc, hf⟩ := bcell hb))
  all_goals go_wp2
  have hz : w.heap.size + 1 < w1.heap.size := by have := hb.size; simp at this; omega
  refine bodyPost_ret (v := .agg #[.int .i64 kind, .float .f64 num, .string (showK s), .int .i64 ref]) (by simp [results, Tryz.results41, go_sem, hc]) rfl ⟨rfl, ?_⟩
  exact ((((((((Below.refl _ _).alloc (Nat.le_refl _) _).alloc (by simp) _).drew.trans (hb.mono (by simp; omega))).setCell (by simp) _).setCell (by simp) _).setCell (by simp) _).setCell (by simp) _)

set_option maxHeartbeats 4000000 in
set_option maxRecDepth 100000 in
theorem told_any (kind : Int) (num : Nat) (s : ByteArray) (n : Nat) (w : World) (hs : s.size ≤ 4194304) (hn : s.size = 2 * n) (hk0 : 0 ≤ kind) (hk1 : kind < 256) :
    Calls Tryz.prog 26 #[.agg #[.int .u8 kind, .int .i32 0, .float .f64 num, .string s, .int .i32 0, .int .i32 0, .int .u8 7]] w fun e w' =>
      e = .returned (.agg #[.bool true, .bool false, .bool false, .bool true, .bool true, .bool true, .int .i64 kind, .float .f64 num, .string (showK s), .int .i64 0, .int .i64 0, .int .i64 0, .bool true, .bool true, .bool true]) ∧ Below w.heap.size w w' := by
  have HS : ∀ W, Hid (Calls Tryz.prog 41 #[.agg #[.int .u8 kind, .int .i32 0, .float .f64 num, .string s]] W fun e w' => e = .returned (.agg #[.int .i64 kind, .float .f64 num, .string (showK s), .int .i64 0]) ∧ Below W.heap.size W w') := fun W => Lib.hid (plain_any kind 0 num s n W hs hn hk0 hk1 (by omega) (by omega))
  clear hs hn
  have b1 : bits BinOp.and IntKind.u8 7 2 = 2 := by kernel_rfl
  have b2 : bits BinOp.and IntKind.u8 7 4 = 4 := by kernel_rfl
  have b3 : bits BinOp.and IntKind.u8 7 8 = 0 := by kernel_rfl
  have b4 : bits BinOp.and IntKind.u8 7 1 = 1 := by kernel_rfl
  go_enter Tryz.func26, Tryz.ntmps26
  go_wp2_with fail
  go_region_held3 (fun w' => w'.cell? ⟨w.heap.size, 0, none⟩ = some (.int .u8 kind) ∧ w'.cell? ⟨w.heap.size, 1, none⟩ = some (.int .i32 0) ∧ w'.cell? ⟨w.heap.size, 2, none⟩ = some (.float .f64 num) ∧ w'.cell? ⟨w.heap.size, 3, none⟩ = some (.string s) ∧ w'.cell? ⟨w.heap.size, 6, none⟩ = some (.int .u8 7)) (first | (refine ⟨?_, ?_, ?_, ?_, ?_⟩ <;> (rw [hc _ _ (by simp; omega)]; go_simp)) | (refine ⟨?_, ?_, ?_, ?_, ?_⟩ <;> ((repeat rw [far_cell (by omega)]); rw [hc _ _ (by simp; omega)]; go_simp)) | go_keep)
    (first
      | (go_at_call 41; refine (HS _).out.mono ?_; rintro e w1 ⟨rfl, hb⟩; obtain ⟨hc, hf⟩ := bcell hb))
  have HW : ∃ W3 : World, W3 = (((((((w1.setCell ⟨w.heap.size + 1 + 1, 0, none⟩ (.bool true)).setCell ⟨w.heap.size + 1 + 1, 3, none⟩ (.bool true)).setCell ⟨w.heap.size + 1 + 1, 6, none⟩ (.int .i64 kind)).setCell ⟨w.heap.size + 1 + 1, 7, none⟩ (.float .f64 num)).setCell ⟨w.heap.size + 1 + 1, 8, none⟩ (.string (showK s))).setCell ⟨w.heap.size + 1 + 1, 9, none⟩ (.int .i64 0)).setCell ⟨w.heap.size + 1 + 1, 12, none⟩ (.bool true)) := ⟨_, rfl⟩
  obtain ⟨W3, hW3⟩ := HW
  rw [← hW3]
  have e3 : W3.heap[w.heap.size + 1 + 1]? = some (.cells #[.bool true, .bool false, .bool false, .bool true, .bool true, .bool true, .int .i64 kind, .float .f64 num, .string (showK s), .int .i64 0, .int .i64 0, .int .i64 0, .bool true, .bool true, .bool true] 33 (0, 0)) := by
    have h0 := (hb.block (w.heap.size + 1 + 1) (by simp)).trans (by simp only [heap_of_drew, heap_of_alloc, size_of_alloc]; rw [if_pos trivial])
    rw [hW3, set_block (set_block (set_block (set_block (set_block (set_block (set_block h0 0 _) 3 _) 6 _) 7 _) 8 _) 9 _) 12 _]
    rfl
  have e2 : W3.heap[w.heap.size + 1]? = some (.cells #[.bool false, .bool false, .bool false, .bool false, .bool false, .bool false, .int .i64 0, .float .f64 0, .string ⟨#[]⟩, .int .i64 0, .int .i64 0, .int .i64 0, .bool false, .bool false, .bool false] 33 (0, 0)) := by
    rw [hW3]
    simp only [far_heap (show w.heap.size + 1 ≠ w.heap.size + 1 + 1 by omega)]
    exact (hb.block (w.heap.size + 1) (by simp)).trans (by simp only [heap_of_drew, heap_of_alloc, size_of_alloc]; rw [if_neg (by omega), if_pos trivial])
  have hB3 : Below w.heap.size w W3 := by
    rw [hW3]
    exact ((((((((((((Below.refl _ _).alloc (Nat.le_refl _) _).alloc (by simp) _).alloc (by simp; omega) _).drew.trans (hb.mono (by simp; omega))).setCell (by simp; omega) _).setCell (by simp; omega) _).setCell (by simp; omega) _).setCell (by simp; omega) _).setCell (by simp; omega) _).setCell (by simp; omega) _).setCell (by simp; omega) _)
  clear hW3 hc hf hb
  have E3 := Lib.hid e3
  have E2 := Lib.hid e2
  clear e3 e2
  go_wp2_with ((with_reducible refine wpList_load_row rfl 33 (.tmp 3) rfl (w.heap.size + 1 + 1) rfl 33 _ (0, 0) _ E3.out Tryz.underlying33 rfl (by kernel_rfl) ?_); (refine wpList_store_row rfl 33 (.tmp 2) (.tmp 39) rfl (w.heap.size + 1) _ rfl rfl 33 _ E2.out (by kernel_rfl) rfl (by simp [Value.oneCell']) ?_))
  refine bodyPost_ret (results_cell_row rfl _ _ (w.heap.size + 1) 33 _ (0, 0) _ rfl (setRow_heap _ _ _ _ _ _ E2.out) Tryz.underlying33 rfl (by kernel_rfl)) rfl ⟨rfl, ?_⟩
  exact below_setRow hB3 (by omega) _
end Go.Proofs.YtlacgdnidilndaaGreatDoor
