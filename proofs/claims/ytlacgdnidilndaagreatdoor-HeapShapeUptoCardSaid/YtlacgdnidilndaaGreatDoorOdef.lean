/- A new property told in plain data: contracts of objects.Define, plain.Define. -/
import Derived.Test.YtlacgdnidilndaaGreatDoorVal
import Derived.Test.YtlacgdnidilndaaGreatDoorDefine
import Derived.Test.YtlacgdnidilndaaGreatDoorSameOwn
namespace Go.Proofs.YtlacgdnidilndaaGreatDoor
open Go.RowKit
open Go.Proofs (Tryz.prog)

theorem sz_drew (w : World) : w.drew.heap.size = w.heap.size := rfl
def Got7 (W wx : World) (g : Nat) : Prop := Below W.heap.size W wx ∧ wx.heap[g]? = some (.cells #[.int .u8 0, .int .i32 0, .float .f64 0, .string ⟨#[]⟩, .int .i32 0, .int .i32 0, .int .u8 7, .int .u8 7] 112 (0, 0)) ∧ W.heap.size ≤ g
set_option maxHeartbeats 4000000 in
set_option maxRecDepth 100000 in
theorem odefine_new (oh hp bc r : Nat) (s k : ByteArray) (kz kind : Int) (num : Nat) (txt str : ByteArray) (w : World) (R : World → Prop) (hr1 : r ≤ 100) (h0 : w.cell? ⟨oh, 0, none⟩ = some (ptr hp)) (hcl : w.cell? ⟨bc, r * 14, none⟩ = some (.string className))
    (HV : ∀ W, Below w.heap.size w W → Calls Tryz.prog 42 #[ptr oh, .agg #[.int .i64 kz, .float .f64 num, .string txt, .int .i64 0]] W fun e w' => e = .returned (.tuple #[.agg #[.int .u8 kind, .int .i32 0, .float .f64 num, .string str], .bool true]) ∧ Below W.heap.size W w')
    (HH : ∀ W, Below w.heap.size w W → Calls Tryz.prog 17 #[ptr hp, .int .i32 r] W fun e w' => e = .returned (.bool true) ∧ W = w')
    (HA : ∀ W, Below w.heap.size w W → Calls Tryz.prog 35 #[ptr hp, .int .i32 r] W fun e w' => e = .returned (.pointer (some ⟨bc, r * 14, none⟩)) ∧ W = w')
    (HF : ∀ W, Below w.heap.size w W → Calls Tryz.prog 25 #[.string s] W fun e w' => e = .returned (.string k) ∧ Below W.heap.size W w')
    (HD : ∀ W, Below w.heap.size w W → Calls Tryz.prog 48 #[ptr hp, .int .i32 r, .string k, .agg #[.int .u8 kind, .int .i32 0, .float .f64 num, .string str, .int .i32 0, .int .i32 0, .int .u8 7, .int .u8 23]] W fun e w' => e = .returned (.bool true) ∧ R w' ∧ ∀ b, b < W.heap.size → (b = oh ∨ w.heap.size ≤ b) → w'.heap[b]? = W.heap[b]?) :
    Calls Tryz.prog 27 #[ptr oh, .int .i64 r, .string s, .agg #[.bool true, .bool false, .bool false, .bool true, .bool true, .bool true, .int .i64 kz, .float .f64 num, .string txt, .int .i64 0, .int .i64 0, .int .i64 0, .bool true, .bool true, .bool true]] w fun e w' => e = .returned .nilIface ∧ R w' := by
  have HV := Lib.hid HV
  have HH := Lib.hid HH
  have HA := Lib.hid HA
  have HF := Lib.hid HF
  have HD := Lib.hid HD
  have l0 := lt_of_cell h0
  have l2 := lt_of_cell hcl
  unfold ptr className at *
  go_enter Tryz.func27, Tryz.ntmps27
  go_upto_region 3 with (go_at_call 42; refine (HV.out _ (((Below.refl _ _).alloc (Nat.le_refl _) _).alloc (by simp) _)).mono ?_; rintro e w1 ⟨rfl, hb⟩; obtain ⟨hcc, hff⟩ := bcell hb)
  have b1 : Below w.heap.size w w1 := (((Below.refl _ _).alloc (Nat.le_refl _) _).alloc (by simp) _).trans (hb.mono (by simp; omega))
  have hz : w.heap.size + 1 < w1.heap.size := by have := hb.size; simp at this; omega
  have bb : Below w.heap.size w (w1.alloc (.cells #[.int .u8 kind, .int .i32 0, .float .f64 num, .string str] 64)) := b1.alloc (by omega) _
  have e4 : (w1.alloc (.cells #[.int .u8 kind, .int .i32 0, .float .f64 num, .string str] 64)).heap[w.heap.size]? = some (.cells #[.pointer (some ⟨oh, 0, none⟩)] 23 (0, 0)) := (Below.heap_alloc _ _ _ (by omega)).trans ((hb.block w.heap.size (by simp; omega)).trans ((Below.heap_alloc _ _ _ (by simp)).trans (heap_new _ _)))
  have e7 : (w1.alloc (.cells #[.int .u8 kind, .int .i32 0, .float .f64 num, .string str] 64)).heap[w.heap.size + 1]? = some (.cells #[.bool true, .bool false, .bool false, .bool true, .bool true, .bool true, .int .i64 kz, .float .f64 num, .string txt, .int .i64 0, .int .i64 0, .int .i64 0, .bool true, .bool true, .bool true] 33 (0, 0)) := (Below.heap_alloc _ _ _ (by omega)).trans ((hb.block (w.heap.size + 1) (by simp)).trans (by rw [heap_of_alloc, if_pos (by simp)]))
  have e9 := heap_new w1 (.cells #[.int .u8 kind, .int .i32 0, .float .f64 num, .string str] 64)
  have hoh := (bb.cell (p := ⟨oh, 0, none⟩) l0).trans h0
  have vbz : w.heap.size + 1 < w1.heap.size := hz
  clear hcc hff hb b1 h0 hz
  obtain ⟨vb, hvb⟩ : ∃ x, x = w1.heap.size := ⟨_, rfl⟩
  rw [← hvb] at e9 vbz
  rw [← hvb]
  generalize w1.alloc (.cells #[.int .u8 kind, .int .i32 0, .float .f64 num, .string str] 64) = W2 at *
  clear hvb
  have a4 := (cell_of_block e4 0).trans rfl
  have d0 := (cell_of_block e7 0).trans rfl
  have d1 := (cell_of_block e7 1).trans rfl
  have d2 := (cell_of_block e7 2).trans rfl
  have d3 := (cell_of_block e7 3).trans rfl
  have d10 := (cell_of_block e7 10).trans rfl
  have d11 := (cell_of_block e7 11).trans rfl
  have BB := Lib.hid bb
  have E4 := Lib.hid e4
  have E7 := Lib.hid e7
  have E9 := Lib.hid e9
  have HOH := Lib.hid hoh
  have VBZ := Lib.hid vbz
  clear bb e4 e7 e9 vbz
  have QR : ∀ n, Calls Tryz.prog 18 #[.int .i64 r] (W2.drewN n) fun e w'' => e = .returned (.int .i32 r) ∧ ∃ m, w'' = W2.drewN m := fun n => quiet_left (ref_any _ _ (by omega) (by omega))
  have QH : ∀ n, Calls Tryz.prog 17 #[.pointer (some ⟨hp, 0, none⟩), .int .i32 r] (W2.drewN n) fun e w'' => e = .returned (.bool true) ∧ ∃ m, w'' = W2.drewN m := fun n => quiet_left (HH.out _ ⟨BB.out.os, BB.out.tape, BB.out.output, BB.out.size, BB.out.block⟩)
  have QK : ∀ n, Calls Tryz.prog 43 #[.int .i64 0, .pointer (some ⟨w.heap.size, 0, none⟩)] (W2.drewN n) fun e w'' => e = .returned (.bool true) ∧ ∃ m, w'' = W2.drewN m := fun n => (known_zero w.heap.size (W2.drewN n)).mono fun e w' ⟨x, m, y⟩ => ⟨x, n + m, by rw [y, World.drewN_drewN]⟩
  have QR := Lib.hid QR
  have QH := Lib.hid QH
  have QK := Lib.hid QK
  go_quiet ((first | (go_at_call 18; exact QR.out _) | (go_at_call 17; exact QH.out _) | (go_at_call 43; exact QK.out _)))
  go_upto_region 7 with (fail)
  have bb3 : Below w.heap.size w (W2.drewN nq) := ⟨BB.out.os, BB.out.tape, BB.out.output, BB.out.size, BB.out.block⟩
  have E4 : Hid ((W2.drewN nq).heap[w.heap.size]? = _) := E4
  have E7 : Hid ((W2.drewN nq).heap[w.heap.size + 1]? = _) := E7
  have E9 : Hid ((W2.drewN nq).heap[vb]? = _) := E9
  have HOH : Hid ((W2.drewN nq).cell? ⟨oh, 0, none⟩ = _) := HOH
  clear a4 d0 d1 d2 d3 d10 d11 QR QH QK hoh BB
  have BB := Lib.hid bb3
  clear bb3
  generalize W2.drewN nq = W3 at *
  go_cut [12] from 66 (fun p wx => ∃ g, p = .pointer (some ⟨g, 0, none⟩) ∧ Hid (Got7 W3 wx g))
  case first =>
    have d3 := (cell_of_block E7.out 3).trans rfl
    have d4 := (cell_of_block E7.out 4).trans rfl
    have d5 := (cell_of_block E7.out 5).trans rfl
    have d12 := (cell_of_block E7.out 12).trans rfl
    have d13 := (cell_of_block E7.out 13).trans rfl
    have d14 := (cell_of_block E7.out 14).trans rfl
    have ln : w.heap.size + 1 < W3.heap.size := lt_of_heap E7.out
    have ln2 : w.heap.size < W3.heap.size := by omega
    have ln3 : w.heap.size < W3.heap.size + 1 := by omega
    have ln4 : w.heap.size + 1 < W3.heap.size + 1 := by omega
    have ln5 : w.heap.size + 1 < W3.heap.size + 1 + 1 := by omega
    have KS : ∀ X, Below W3.heap.size W3 X → X.cell? ⟨w.heap.size + 1, 3, none⟩ = some (.bool true) ∧ X.cell? ⟨w.heap.size + 1, 4, none⟩ = some (.bool true) ∧ X.cell? ⟨w.heap.size + 1, 5, none⟩ = some (.bool true) ∧ X.cell? ⟨w.heap.size + 1, 12, none⟩ = some (.bool true) ∧ X.cell? ⟨w.heap.size + 1, 13, none⟩ = some (.bool true) ∧ X.cell? ⟨w.heap.size + 1, 14, none⟩ = some (.bool true) := fun X h => ⟨(h.cell (p := ⟨w.heap.size + 1, 3, none⟩) ln).trans d3, (h.cell (p := ⟨w.heap.size + 1, 4, none⟩) ln).trans d4, (h.cell (p := ⟨w.heap.size + 1, 5, none⟩) ln).trans d5, (h.cell (p := ⟨w.heap.size + 1, 12, none⟩) ln).trans d12, (h.cell (p := ⟨w.heap.size + 1, 13, none⟩) ln).trans d13, (h.cell (p := ⟨w.heap.size + 1, 14, none⟩) ln).trans d14⟩
    have KS := Lib.hid KS
    go_region_held3 (fun w' => w'.cell? ⟨w.heap.size + 1, 3, none⟩ = some (.bool true) ∧ w'.cell? ⟨w.heap.size + 1, 4, none⟩ = some (.bool true) ∧ w'.cell? ⟨w.heap.size + 1, 5, none⟩ = some (.bool true) ∧ w'.cell? ⟨w.heap.size + 1, 12, none⟩ = some (.bool true) ∧ w'.cell? ⟨w.heap.size + 1, 13, none⟩ = some (.bool true) ∧ w'.cell? ⟨w.heap.size + 1, 14, none⟩ = some (.bool true)) (first | (refine KS.out _ ?_; (repeat first | (with_reducible exact Below.refl _ _) | (with_reducible refine Below.drew ?_) | (with_reducible refine Below.setCell ?_ ?_ _) | (with_reducible refine Below.alloc ?_ ?_ _)); all_goals (first | exact Nat.le_refl _ | (simp only [size_of_alloc]; omega))))
      (first
        | (go_at_call 44; refine (flags_any _ _ (by go_simp) (by go_simp) (by go_simp)).mono ?_; rintro e w' ⟨rfl, rfl⟩))
    all_goals go_wp2_with fail
    all_goals go_meet
    all_goals refine ⟨_, rfl, Lib.hid ⟨?_, ?_, ?_⟩⟩
    all_goals first
      | omega
      | ((repeat first | (with_reducible exact Below.refl _ _) | (with_reducible refine Below.drew ?_) | (with_reducible refine Below.setCell ?_ ?_ _) | (with_reducible refine Below.alloc ?_ ?_ _)); all_goals (first | exact Nat.le_refl _ | (simp only [size_of_alloc]; omega)))
      | (simp only [heap_of_alloc, heap_of_drew, size_of_alloc]; (repeat first | rw [if_pos trivial] | rw [if_pos (by omega)] | rw [if_neg (by omega)]))
  case rest =>
    obtain ⟨g, rfl, hG⟩ := hcut
    obtain ⟨gb, gd, gz⟩ := hG.out
    have ln : w.heap.size + 1 < W3.heap.size := lt_of_heap E7.out
    have lv : vb < W3.heap.size := lt_of_heap E9.out
    have lo : oh < W3.heap.size := by have := BB.out.size; omega
    have bw := BB.out.trans (gb.mono (by omega))
    have e4 := (gb.block w.heap.size (by omega)).trans E4.out
    have e7 := (gb.block (w.heap.size + 1) ln).trans E7.out
    have e9 := (gb.block vb lv).trans E9.out
    have hoh := (gb.cell (p := ⟨oh, 0, none⟩) lo).trans HOH.out
    have vgz : vb < g := by omega
    have vnz : w.heap.size + 1 < vb := VBZ.out
    clear E4 E7 E9 HOH BB hG gz lv lo ln gb VBZ
    have a4 := (cell_of_block e4 0).trans rfl
    have d0 := (cell_of_block e7 0).trans rfl
    have d1 := (cell_of_block e7 1).trans rfl
    have d2 := (cell_of_block e7 2).trans rfl
    have v0 := (cell_of_block e9 0).trans rfl
    have v1 := (cell_of_block e9 1).trans rfl
    have v2 := (cell_of_block e9 2).trans rfl
    have v3 := (cell_of_block e9 3).trans rfl
    have g0 := (cell_of_block gd 0).trans rfl
    have g1 := (cell_of_block gd 1).trans rfl
    have g2 := (cell_of_block gd 2).trans rfl
    have g3 := (cell_of_block gd 3).trans rfl
    have g4 := (cell_of_block gd 4).trans rfl
    have g5 := (cell_of_block gd 5).trans rfl
    have g6 := (cell_of_block gd 6).trans rfl
    have g7 := (cell_of_block gd 7).trans rfl
    have gf := unfrozen_of_block gd
    have bo : bits BinOp.or IntKind.u8 7 16 = 23 := by kernel_rfl
    have E4 := Lib.hid e4
    have E7 := Lib.hid e7
    have GD := Lib.hid gd
    have BW := Lib.hid bw
    clear e4 e7 e9 gd bw
    go_upto_region 14 with (fail)
    have HX : ∃ W5 : World, W5 = ((((wc.setCell ⟨g, 0, none⟩ (.int .u8 kind)).setCell ⟨g, 1, none⟩ (.int .i32 0)).setCell ⟨g, 2, none⟩ (.float .f64 num)).setCell ⟨g, 3, none⟩ (.string str)).setCell ⟨g, 7, none⟩ (.int .u8 23) := ⟨_, rfl⟩
    obtain ⟨W5, hW5⟩ := HX
    rw [← hW5]
    have e5 : W5.heap[g]? = some (.cells #[.int .u8 kind, .int .i32 0, .float .f64 num, .string str, .int .i32 0, .int .i32 0, .int .u8 7, .int .u8 23] 112 (0, 0)) := by
      rw [hW5, set_block (set_block (set_block (set_block (set_block GD.out 0 _) 1 _) 2 _) 3 _) 7 _]; rfl
    have far5 : ∀ b, b < g → W5.heap[b]? = wc.heap[b]? := fun b hb => by
      rw [hW5, far_heap' (by omega), far_heap' (by omega), far_heap' (by omega), far_heap' (by omega), far_heap' (by omega)]
    have b5 : Below w.heap.size w W5 := by
      rw [hW5]
      exact ((((BW.out.setCell (by simp; omega) _).setCell (by simp; omega) _).setCell (by simp; omega) _).setCell (by simp; omega) _).setCell (by simp; omega) _
    have e4' := (far5 w.heap.size (by omega)).trans E4.out
    have e7' := (far5 (w.heap.size + 1) (by omega)).trans E7.out
    have lo : oh < w.heap.size := l0
    have hoh' := (World.cell?_of_block (a := ⟨oh, 0, none⟩) (far5 oh (by omega))).trans hoh
    have hcl' := (b5.cell (p := ⟨bc, r * 14, none⟩) l2).trans hcl
    clear hW5 far5 a4 d0 d1 d2 v0 v1 v2 v3 g0 g1 g2 g3 g4 g5 g6 g7 gf bo hoh BW GD E4 E7
    have a4 := (cell_of_block e4' 0).trans rfl
    have d0 := (cell_of_block e7' 0).trans rfl
    have g0 := (cell_of_block e5 0).trans rfl
    have g1 := (cell_of_block e5 1).trans rfl
    have g2 := (cell_of_block e5 2).trans rfl
    have g3 := (cell_of_block e5 3).trans rfl
    have g4 := (cell_of_block e5 4).trans rfl
    have g5 := (cell_of_block e5 5).trans rfl
    have g6 := (cell_of_block e5 6).trans rfl
    have g7 := (cell_of_block e5 7).trans rfl
    have B5 := Lib.hid b5
    have E4 := Lib.hid e4'
    have E5 := Lib.hid e5
    have HOH := Lib.hid hoh'
    have QR : ∀ n, Calls Tryz.prog 18 #[.int .i64 r] (W5.drewN n) fun e w'' => e = .returned (.int .i32 r) ∧ ∃ m, w'' = W5.drewN m := fun n => quiet_left (ref_any _ _ (by omega) (by omega))
    have QA : ∀ n, Calls Tryz.prog 35 #[.pointer (some ⟨hp, 0, none⟩), .int .i32 r] (W5.drewN n) fun e w'' => e = .returned (.pointer (some ⟨bc, r * 14, none⟩)) ∧ ∃ m, w'' = W5.drewN m := fun n => quiet_left (HA.out _ ⟨B5.out.os, B5.out.tape, B5.out.output, B5.out.size, B5.out.block⟩)
    have QR := Lib.hid QR
    have QA := Lib.hid QA
    clear b5 e4' e7' e5
    by_cases hl : s.toList = [108, 101, 110, 103, 116, 104]
    · have hl2 : (s.toList == [108, 101, 110, 103, 116, 104]) = true := by rw [hl]; rfl
      go_quiet ((first | (go_at_call 18; exact QR.out _) | (go_at_call 35; exact QA.out _)))
      go_wp2_with fail
      have B6 := Lib.hid (⟨B5.out.os, B5.out.tape, B5.out.output, B5.out.size, B5.out.block⟩ : Below w.heap.size w (W5.drewN nq))
      have KS : ∀ X : World, (∀ b, b < (W5.drewN nq).heap.size → (b = oh ∨ w.heap.size ≤ b) → X.heap[b]? = (W5.drewN nq).heap[b]?) → X.cell? ⟨w.heap.size, 0, none⟩ = some (.pointer (some ⟨oh, 0, none⟩)) ∧ X.cell? ⟨oh, 0, none⟩ = some (.pointer (some ⟨hp, 0, none⟩)) ∧ X.cell? ⟨g, 0, none⟩ = some (.int .u8 kind) ∧ X.cell? ⟨g, 1, none⟩ = some (.int .i32 0) ∧ X.cell? ⟨g, 2, none⟩ = some (.float .f64 num) ∧ X.cell? ⟨g, 3, none⟩ = some (.string str) ∧ X.cell? ⟨g, 4, none⟩ = some (.int .i32 0) ∧ X.cell? ⟨g, 5, none⟩ = some (.int .i32 0) ∧ X.cell? ⟨g, 6, none⟩ = some (.int .u8 7) ∧ X.cell? ⟨g, 7, none⟩ = some (.int .u8 23) := fun X h =>
        have x4 : (W5.drewN nq).heap[w.heap.size]? = some (.cells #[.pointer (some ⟨oh, 0, none⟩)] 23 (0, 0)) := E4.out
        have x5 : (W5.drewN nq).heap[g]? = some (.cells #[.int .u8 kind, .int .i32 0, .float .f64 num, .string str, .int .i32 0, .int .i32 0, .int .u8 7, .int .u8 23] 112 (0, 0)) := E5.out
        have h1 := (h w.heap.size (lt_of_heap x4) (.inr (Nat.le_refl _))).trans x4
        have h3 := (h g (lt_of_heap x5) (.inr (by omega))).trans x5
        ⟨(cell_of_block h1 0).trans rfl, (World.cell?_of_block (a := ⟨oh, 0, none⟩) (h oh (lt_of_cell HOH.out) (.inl rfl))).trans HOH.out, (cell_of_block h3 0).trans rfl, (cell_of_block h3 1).trans rfl, (cell_of_block h3 2).trans rfl, (cell_of_block h3 3).trans rfl, (cell_of_block h3 4).trans rfl, (cell_of_block h3 5).trans rfl, (cell_of_block h3 6).trans rfl, (cell_of_block h3 7).trans rfl⟩
      have z6 : w.heap.size ≤ (W5.drewN nq).heap.size := B6.out.size
      have K0 := KS (W5.drewN nq) (fun _ _ _ => rfl)
      have KS := Lib.hid KS
      clear QR QA a4 d0 g0 g1 g2 g3 g4 g5 g6 g7 hoh' hcl' hl2 hl E4 E5 HOH B5
      generalize W5.drewN nq = W6 at *
      obtain ⟨k0, k1, k2, k3, k4, k5, k6, k7, k8, k9⟩ := K0
      go_region_held3 (fun w' => w'.cell? ⟨w.heap.size, 0, none⟩ = some (.pointer (some ⟨oh, 0, none⟩)) ∧ w'.cell? ⟨oh, 0, none⟩ = some (.pointer (some ⟨hp, 0, none⟩)) ∧ w'.cell? ⟨g, 0, none⟩ = some (.int .u8 kind) ∧ w'.cell? ⟨g, 1, none⟩ = some (.int .i32 0) ∧ w'.cell? ⟨g, 2, none⟩ = some (.float .f64 num) ∧ w'.cell? ⟨g, 3, none⟩ = some (.string str) ∧ w'.cell? ⟨g, 4, none⟩ = some (.int .i32 0) ∧ w'.cell? ⟨g, 5, none⟩ = some (.int .i32 0) ∧ w'.cell? ⟨g, 6, none⟩ = some (.int .u8 7) ∧ w'.cell? ⟨g, 7, none⟩ = some (.int .u8 23))
        (first | (refine KS.out _ ?_; exact fun _ _ _ => rfl) | (refine KS.out _ ?_; exact fun b hb _ => hb1.block b hb) | (refine KS.out _ ?_; exact fun b hb h => (hK b (Nat.lt_of_lt_of_le hb hb1.size) h).trans (hb1.block b hb)))
        (first
          | (go_at_call 18; refine (ref_any _ _ (by omega) (by omega)).mono ?_; rintro e w' ⟨rfl, rfl⟩)
          | (go_at_call 25; refine (HF.out _ (by first | exact B6.out | exact B6.out.drew | exact B6.out.drew.drew)).mono ?_; rintro e w1 ⟨rfl, hb1⟩)
          | (go_at_call 48; refine (HD.out _ (by first | exact B6.out.trans (hb1.mono z6) | exact B6.out.drew.trans (hb1.mono z6) | exact B6.out.drew.drew.trans (hb1.mono z6))).mono ?_; rintro e w2 ⟨rfl, hR, hK⟩; have HR := Lib.hid hR; clear hR))
      all_goals go_wp2
      all_goals go_ret
      all_goals exact ⟨rfl, HR.out⟩
    · have hl2 : (s.toList == [108, 101, 110, 103, 116, 104]) = false := by simpa using hl
      go_quiet (fail)
      go_wp2_with fail
      have B6 := Lib.hid (⟨B5.out.os, B5.out.tape, B5.out.output, B5.out.size, B5.out.block⟩ : Below w.heap.size w (W5.drewN nq))
      have KS : ∀ X : World, (∀ b, b < (W5.drewN nq).heap.size → (b = oh ∨ w.heap.size ≤ b) → X.heap[b]? = (W5.drewN nq).heap[b]?) → X.cell? ⟨w.heap.size, 0, none⟩ = some (.pointer (some ⟨oh, 0, none⟩)) ∧ X.cell? ⟨oh, 0, none⟩ = some (.pointer (some ⟨hp, 0, none⟩)) ∧ X.cell? ⟨g, 0, none⟩ = some (.int .u8 kind) ∧ X.cell? ⟨g, 1, none⟩ = some (.int .i32 0) ∧ X.cell? ⟨g, 2, none⟩ = some (.float .f64 num) ∧ X.cell? ⟨g, 3, none⟩ = some (.string str) ∧ X.cell? ⟨g, 4, none⟩ = some (.int .i32 0) ∧ X.cell? ⟨g, 5, none⟩ = some (.int .i32 0) ∧ X.cell? ⟨g, 6, none⟩ = some (.int .u8 7) ∧ X.cell? ⟨g, 7, none⟩ = some (.int .u8 23) := fun X h =>
        have x4 : (W5.drewN nq).heap[w.heap.size]? = some (.cells #[.pointer (some ⟨oh, 0, none⟩)] 23 (0, 0)) := E4.out
        have x5 : (W5.drewN nq).heap[g]? = some (.cells #[.int .u8 kind, .int .i32 0, .float .f64 num, .string str, .int .i32 0, .int .i32 0, .int .u8 7, .int .u8 23] 112 (0, 0)) := E5.out
        have h1 := (h w.heap.size (lt_of_heap x4) (.inr (Nat.le_refl _))).trans x4
        have h3 := (h g (lt_of_heap x5) (.inr (by omega))).trans x5
        ⟨(cell_of_block h1 0).trans rfl, (World.cell?_of_block (a := ⟨oh, 0, none⟩) (h oh (lt_of_cell HOH.out) (.inl rfl))).trans HOH.out, (cell_of_block h3 0).trans rfl, (cell_of_block h3 1).trans rfl, (cell_of_block h3 2).trans rfl, (cell_of_block h3 3).trans rfl, (cell_of_block h3 4).trans rfl, (cell_of_block h3 5).trans rfl, (cell_of_block h3 6).trans rfl, (cell_of_block h3 7).trans rfl⟩
      have z6 : w.heap.size ≤ (W5.drewN nq).heap.size := B6.out.size
      have K0 := KS (W5.drewN nq) (fun _ _ _ => rfl)
      have KS := Lib.hid KS
      clear QR QA a4 d0 g0 g1 g2 g3 g4 g5 g6 g7 hoh' hcl' hl2 hl E4 E5 HOH B5
      generalize W5.drewN nq = W6 at *
      obtain ⟨k0, k1, k2, k3, k4, k5, k6, k7, k8, k9⟩ := K0
      go_region_held3 (fun w' => w'.cell? ⟨w.heap.size, 0, none⟩ = some (.pointer (some ⟨oh, 0, none⟩)) ∧ w'.cell? ⟨oh, 0, none⟩ = some (.pointer (some ⟨hp, 0, none⟩)) ∧ w'.cell? ⟨g, 0, none⟩ = some (.int .u8 kind) ∧ w'.cell? ⟨g, 1, none⟩ = some (.int .i32 0) ∧ w'.cell? ⟨g, 2, none⟩ = some (.float .f64 num) ∧ w'.cell? ⟨g, 3, none⟩ = some (.string str) ∧ w'.cell? ⟨g, 4, none⟩ = some (.int .i32 0) ∧ w'.cell? ⟨g, 5, none⟩ = some (.int .i32 0) ∧ w'.cell? ⟨g, 6, none⟩ = some (.int .u8 7) ∧ w'.cell? ⟨g, 7, none⟩ = some (.int .u8 23))
        (first | (refine KS.out _ ?_; exact fun _ _ _ => rfl) | (refine KS.out _ ?_; exact fun b hb _ => hb1.block b hb) | (refine KS.out _ ?_; exact fun b hb h => (hK b (Nat.lt_of_lt_of_le hb hb1.size) h).trans (hb1.block b hb)))
        (first
          | (go_at_call 18; refine (ref_any _ _ (by omega) (by omega)).mono ?_; rintro e w' ⟨rfl, rfl⟩)
          | (go_at_call 25; refine (HF.out _ (by first | exact B6.out | exact B6.out.drew | exact B6.out.drew.drew)).mono ?_; rintro e w1 ⟨rfl, hb1⟩)
          | (go_at_call 48; refine (HD.out _ (by first | exact B6.out.trans (hb1.mono z6) | exact B6.out.drew.trans (hb1.mono z6) | exact B6.out.drew.drew.trans (hb1.mono z6))).mono ?_; rintro e w2 ⟨rfl, hR, hK⟩; have HR := Lib.hid hR; clear hR))
      all_goals go_wp2
      all_goals go_ret
      all_goals exact ⟨rfl, HR.out⟩
end Go.Proofs.YtlacgdnidilndaaGreatDoor
