/- A new property told: contracts of heap.define, heap.Define. -/
import Derived.Test.YtlacgdnidilndaaGreatDoorOwn
import Derived.Test.YtlacgdnidilndaaGreatDoorWith
namespace Go.Proofs.YtlacgdnidilndaaGreatDoor
open Go.RowKit
open Go.Proofs (Tryz.prog)

set_option maxHeartbeats 1000000 in
set_option maxRecDepth 100000 in
theorem accessor_any (kind : Int) (num : Nat) (str : ByteArray) (w : World) :
    Calls Tryz.prog 84 #[.agg #[.int .u8 kind, .int .i32 0, .float .f64 num, .string str, .int .i32 0, .int .i32 0, .int .u8 7, .int .u8 23]] w fun e w' => e = .returned (.bool false) ∧ Below w.heap.size w w' := by
  have b1 : bits BinOp.and IntKind.u8 23 96 = 0 := by kernel_rfl
  go_enter Tryz.func84, Tryz.ntmps84
  go_wp2
  go_ret
  exact ⟨rfl, (Below.refl _ _).alloc (Nat.le_refl _) _⟩

set_option maxHeartbeats 4000000 in
set_option maxRecDepth 100000 in
theorem define_new (hp bc n cap r : Nat) (k : ByteArray) (kind : Int) (num : Nat) (str : ByteArray) (w : World) (R : World → Prop) (hc : w.cell? ⟨hp, 0, none⟩ = some (.slice (some ⟨bc, 0, none⟩) n cap)) (h1 : r < n) (hn : n ≤ 100)
    (hfx : w.cell? ⟨bc, r * 14 + 2, none⟩ = some (.bool false))
    (HO : ∀ W, Below w.heap.size w W → Calls Tryz.prog 24 #[ptr hp, .int .i32 r, .string k] W fun e w' => e = .returned (.tuple #[zeroProp, .bool false]) ∧ Below W.heap.size W w')
    (HP : ∀ W, Below w.heap.size w W → Calls Tryz.prog 69 #[ptr hp, .int .i32 r, .string k, .agg #[.int .u8 kind, .int .i32 0, .float .f64 num, .string str, .int .i32 0, .int .i32 0, .int .u8 7]] W fun e w' => e = .returned (.tuple #[]) ∧ R w') :
    Calls Tryz.prog 67 #[ptr hp, .int .i32 r, .string k, .agg #[.int .u8 kind, .int .i32 0, .float .f64 num, .string str, .int .i32 0, .int .i32 0, .int .u8 7, .int .u8 23]] w fun e w' => e = .returned (.bool true) ∧ R w' := by
  have l1 := lt_of_cell hc
  have l2 := lt_of_cell hfx
  have HO := Lib.hid HO
  have HP := Lib.hid HP
  have b1 : bits BinOp.and IntKind.u8 23 7 = 7 := by kernel_rfl
  have b2 : bits BinOp.and IntKind.u8 7 7 = 7 := by kernel_rfl
  unfold ptr zeroProp at *
  go_enter Tryz.func67, Tryz.ntmps67
  go_upto_region 3 with (go_at_call 24; refine (HO.out _ ((Below.refl _ _).alloc (Nat.le_refl _) _)).mono ?_; rintro e w1 ⟨rfl, hb⟩; obtain ⟨hcc, hff⟩ := bcell hb; have hz : w.heap.size < w1.heap.size := (by have := hb.size; simp at this; omega))
  have bb : Below w.heap.size w (w1.alloc (.cells #[.int .u8 0, .int .i32 0, .float .f64 0, .string ⟨#[]⟩, .int .i32 0, .int .i32 0, .int .u8 0] 66)) := (((Below.refl _ _).alloc (Nat.le_refl _) _).trans (hb.mono (by simp))).alloc (by omega) _
  have eb : (w1.alloc (.cells #[.int .u8 0, .int .i32 0, .float .f64 0, .string ⟨#[]⟩, .int .i32 0, .int .i32 0, .int .u8 0] 66)).heap[w.heap.size]? = some (.cells #[.int .u8 kind, .int .i32 0, .float .f64 num, .string str, .int .i32 0, .int .i32 0, .int .u8 7, .int .u8 23] 112 (0, 0)) := (Below.heap_alloc _ _ _ hz).trans ((hb.block w.heap.size (by simp)).trans (heap_new _ _))
  have hcW := (bb.cell (p := ⟨hp, 0, none⟩) l1).trans hc
  have hfW := (bb.cell (p := ⟨bc, r * 14 + 2, none⟩) l2).trans hfx
  clear hcc hff hb hc hfx
  generalize w1.alloc (.cells #[.int .u8 0, .int .i32 0, .float .f64 0, .string ⟨#[]⟩, .int .i32 0, .int .i32 0, .int .u8 0] 66) = W2 at *
  have x0 := (cell_of_block eb 0).trans rfl
  have x1 := (cell_of_block eb 1).trans rfl
  have x2 := (cell_of_block eb 2).trans rfl
  have x3 := (cell_of_block eb 3).trans rfl
  have x4 := (cell_of_block eb 4).trans rfl
  have x5 := (cell_of_block eb 5).trans rfl
  have x6 := (cell_of_block eb 6).trans rfl
  have x7 := (cell_of_block eb 7).trans rfl
  have xf := unfrozen_of_block eb
  have lb : w.heap.size < W2.heap.size := lt_of_heap eb
  have BB := Lib.hid bb
  have EB := Lib.hid eb
  clear bb eb
  go_upto_region 9 with (first
    | (go_at_call 35; refine (at_any hp bc n cap r _ hcW h1 hn).mono ?_; rintro e w' ⟨rfl, rfl⟩)
    | (go_at_call 84; refine (accessor_any kind num str _).mono ?_; rintro e w3 ⟨rfl, hb3⟩))
  have e3 : w3.heap[w.heap.size]? = some (.cells #[.int .u8 kind, .int .i32 0, .float .f64 num, .string str, .int .i32 0, .int .i32 0, .int .u8 7, .int .u8 23] 112 (0, 0)) := (hb3.block w.heap.size (by rw [size_set]; exact lb)).trans ((set_block EB.out 6 _).trans rfl)
  have b3 : Below w.heap.size w w3 := (BB.out.setCell (by simp) _).trans (hb3.mono (by rw [size_set]; exact Nat.le_of_lt lb))
  clear x0 x1 x2 x3 x4 x5 x6 x7 xf hb3 EB BB hcW hfW
  have x0 := (cell_of_block e3 0).trans rfl
  have x1 := (cell_of_block e3 1).trans rfl
  have x2 := (cell_of_block e3 2).trans rfl
  have x3 := (cell_of_block e3 3).trans rfl
  have x4 := (cell_of_block e3 4).trans rfl
  have x5 := (cell_of_block e3 5).trans rfl
  have x6 := (cell_of_block e3 6).trans rfl
  have xf := unfrozen_of_block e3
  have B3 := Lib.hid b3
  clear e3 b3
  go_wp2_with (go_at_call 69; refine (HP.out _ ((B3.out.setCell (by simp) _).setCell (by simp) _)).mono ?_; rintro e w4 ⟨rfl, hr⟩; have HR := Lib.hid hr; clear hr)
  go_ret
  exact ⟨rfl, HR.out⟩

set_option maxHeartbeats 4000000 in
set_option maxRecDepth 100000 in
theorem hdefine_new (hp bc n cap r : Nat) (k : ByteArray) (kind : Int) (num : Nat) (str : ByteArray) (w : World) (R : World → Prop) (hc : w.cell? ⟨hp, 0, none⟩ = some (.slice (some ⟨bc, 0, none⟩) n cap)) (h1 : r < n) (hn : n ≤ 100)
    (hcl : w.cell? ⟨bc, r * 14, none⟩ = some (.string className))
    (HD : ∀ W, Below w.heap.size w W → Calls Tryz.prog 67 #[ptr hp, .int .i32 r, .string k, .agg #[.int .u8 kind, .int .i32 0, .float .f64 num, .string str, .int .i32 0, .int .i32 0, .int .u8 7, .int .u8 23]] W fun e w' => e = .returned (.bool true) ∧ R w') :
    Calls Tryz.prog 48 #[ptr hp, .int .i32 r, .string k, .agg #[.int .u8 kind, .int .i32 0, .float .f64 num, .string str, .int .i32 0, .int .i32 0, .int .u8 7, .int .u8 23]] w fun e w' => e = .returned (.bool true) ∧ R w' := by
  have l1 := lt_of_cell hc
  have l2 := lt_of_cell hcl
  have HD := Lib.hid HD
  unfold ptr className at *
  go_enter Tryz.func48, Tryz.ntmps48
  go_wp2_with (first
    | (go_at_call 35; refine (at_any hp bc n cap r _ ((World.cell?_alloc_lt _ _ _ l1).trans hc) h1 hn).mono ?_; rintro e w' ⟨rfl, rfl⟩)
    | (go_at_call 67; refine (HD.out _ ((Below.refl _ _).alloc (Nat.le_refl _) _)).mono ?_; rintro e w4 ⟨rfl, hr⟩; have HR := Lib.hid hr; clear hr))
  go_ret
  exact ⟨rfl, HR.out⟩
end Go.Proofs.YtlacgdnidilndaaGreatDoor
