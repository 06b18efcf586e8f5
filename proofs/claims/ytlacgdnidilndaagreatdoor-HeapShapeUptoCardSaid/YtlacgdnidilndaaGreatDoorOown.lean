/- An object's own property in plain data: contract of objects.Own. -/
import Derived.Test.YtlacgdnidilndaaGreatDoorOwns
namespace Go.Proofs.YtlacgdnidilndaaGreatDoor
open Go.RowKit
open Go.Proofs (Tryz.prog)

theorem size_of_drew (w : World) : w.drew.heap.size = w.heap.size := rfl
def zeroDesc : Array Value := #[.bool false, .bool false, .bool false, .bool false, .bool false, .bool false, .int .i64 0, .float .f64 0, .string ⟨#[]⟩, .int .i64 0, .int .i64 0, .int .i64 0, .bool false, .bool false, .bool false]
/-- What region 3 leaves: a block g that holds the property. -/
def Got (n : Nat) (w W1 wx : World) (g : Nat) (C : Array Value) : Prop := Below n w wx ∧ wx.heap[n]? = W1.heap[n]? ∧ wx.heap[g]? = some (.cells C 66 (0, 0))
theorem gotA {n : Nat} {w W1 w2 : World} {C : Array Value} (hb : Below n w w2) (hn : w2.heap[n]? = W1.heap[n]?) (h : n < w2.heap.size) : Got n w W1 (w2.alloc (.cells C 66)) w2.heap.size C :=
  ⟨hb.alloc (by omega) _, (Below.heap_alloc _ _ _ h).trans hn, heap_new _ _⟩
theorem gotB {n g : Nat} {w W1 w2 : World} {kind fl : Int} {num : Nat} {str : ByteArray} (hb : Below n w w2) (hn : w2.heap[n]? = W1.heap[n]?) (hg : w2.heap[g]? = some (.cells #[.int .u8 0, .int .i32 0, .float .f64 0, .string ⟨#[]⟩, .int .i32 0, .int .i32 0, .int .u8 0] 66 (0, 0))) (hgn : n < g) :
    Got n w W1 (((((((w2.setCell ⟨g, 0, none⟩ (.int .u8 kind)).setCell ⟨g, 1, none⟩ (.int .i32 0)).setCell ⟨g, 2, none⟩ (.float .f64 num)).setCell ⟨g, 3, none⟩ (.string str)).setCell ⟨g, 4, none⟩ (.int .i32 0)).setCell ⟨g, 5, none⟩ (.int .i32 0)).setCell ⟨g, 6, none⟩ (.int .u8 fl)) g #[.int .u8 kind, .int .i32 0, .float .f64 num, .string str, .int .i32 0, .int .i32 0, .int .u8 fl] := by
  refine ⟨?_, ?_, ?_⟩
  · repeat refine Below.setCell ?_ (by simp; omega) _
    exact hb
  · rw [far_heap (by omega), far_heap (by omega), far_heap (by omega), far_heap (by omega), far_heap (by omega), far_heap (by omega), far_heap (by omega)]
    exact hn
  · rw [set_block (set_block (set_block (set_block (set_block (set_block (set_block hg 0 _) 1 _) 2 _) 3 _) 4 _) 5 _) 6 _]
    rfl

set_option maxHeartbeats 6000000 in
set_option maxRecDepth 100000 in
theorem oown_gen (oh hp r : Nat) (w : World) (s k : ByteArray) (kind fl : Int) (num : Nat) (str : ByteArray) (b : Bool) (hr1 : r ≤ 100) (h0 : w.cell? ⟨oh, 0, none⟩ = some (ptr hp))
    (HO : ∀ W, Below w.heap.size w W → Calls Tryz.prog 24 #[ptr hp, .int .i32 r, .string k] W fun e w' => e = .returned (.tuple #[.agg #[.int .u8 kind, .int .i32 0, .float .f64 num, .string str, .int .i32 0, .int .i32 0, .int .u8 fl], .bool b]) ∧ Below W.heap.size W w')
    (HF : ∀ W, Below w.heap.size w W → Calls Tryz.prog 25 #[.string s] W fun e w' => e = .returned (.string k) ∧ Below W.heap.size W w')
    (HH : ∀ W, Below w.heap.size w W → Calls Tryz.prog 17 #[ptr hp, .int .i32 r] W fun e w' => e = .returned (.bool true) ∧ W = w')
    (D : Array Value) (hD : if b then (∀ W, Calls Tryz.prog 26 #[.agg #[.int .u8 kind, .int .i32 0, .float .f64 num, .string str, .int .i32 0, .int .i32 0, .int .u8 fl]] W fun e w' => e = .returned (.agg D) ∧ Below W.heap.size W w') ∧ D.size = 15 ∧ D.all (·.oneCell') = true else D = zeroDesc) :
    Calls Tryz.prog 9 #[ptr oh, .int .i64 r, .string s] w fun e w' => e = .returned (.tuple #[.agg D, .bool b]) ∧ Below w.heap.size w w' := by
  have HO := fun W h => Lib.hid (HO W h)
  have HF := fun W h => Lib.hid (HF W h)
  have HH := fun W h => Lib.hid (HH W h)
  have HO := Lib.hid HO
  have HF := Lib.hid HF
  have HH := Lib.hid HH
  have l0 := lt_of_cell h0
  unfold ptr at *
  have HD := Lib.hid hD
  clear hD
  go_enter Tryz.func9, Tryz.ntmps9
  go_wp2_with fail
  have b0 : Below w.heap.size w (w.alloc (.cells #[.bool false, .bool false, .bool false, .bool false, .bool false, .bool false, .int .i64 0, .float .f64 0, .string ⟨#[]⟩, .int .i64 0, .int .i64 0, .int .i64 0, .bool false, .bool false, .bool false] 33)) := (Below.refl _ _).alloc (Nat.le_refl _) _
  have z0 := heap_new w (.cells #[.bool false, .bool false, .bool false, .bool false, .bool false, .bool false, .int .i64 0, .float .f64 0, .string ⟨#[]⟩, .int .i64 0, .int .i64 0, .int .i64 0, .bool false, .bool false, .bool false] 33)
  have hc0 : (w.alloc (.cells #[.bool false, .bool false, .bool false, .bool false, .bool false, .bool false, .int .i64 0, .float .f64 0, .string ⟨#[]⟩, .int .i64 0, .int .i64 0, .int .i64 0, .bool false, .bool false, .bool false] 33)).cell? ⟨oh, 0, none⟩ = some (.pointer (some ⟨hp, 0, none⟩)) := (World.cell?_alloc_lt _ _ _ l0).trans h0
  have hzz : w.heap.size < (w.alloc (.cells #[.bool false, .bool false, .bool false, .bool false, .bool false, .bool false, .int .i64 0, .float .f64 0, .string ⟨#[]⟩, .int .i64 0, .int .i64 0, .int .i64 0, .bool false, .bool false, .bool false] 33)).heap.size := by simp
  have Z0 := Lib.hid z0
  clear h0 z0
  generalize w.alloc (.cells #[.bool false, .bool false, .bool false, .bool false, .bool false, .bool false, .int .i64 0, .float .f64 0, .string ⟨#[]⟩, .int .i64 0, .int .i64 0, .int .i64 0, .bool false, .bool false, .bool false] 33) = W0 at *
  go_region_held3 (fun w' => w'.cell? ⟨oh, 0, none⟩ = some (.pointer (some ⟨hp, 0, none⟩))) (go_keep)
    (first
      | (go_at_call 18; refine (ref_any _ _ (by omega) (by omega)).mono ?_; rintro e w' ⟨rfl, rfl⟩)
      | (go_at_call 17; refine (HH.out _ (by first | exact b0 | exact b0.drew | exact b0.drew.drew)).out.mono ?_; rintro e w' ⟨rfl, rfl⟩))
  go_wp2_with fail
  have b1 : Below w.heap.size w W0.drew := b0.drew
  have hc1 : W0.drew.cell? ⟨oh, 0, none⟩ = some (.pointer (some ⟨hp, 0, none⟩)) := hc0
  have Z1 : Hid (W0.drew.heap[w.heap.size]? = _) := Z0
  have hz1 : w.heap.size < W0.drew.heap.size := hzz
  clear hc0 b0 Z0 hzz
  generalize W0.drew = W1 at *
  have l1 : oh < W1.heap.size := by omega
  go_cut [8, 9] from 19 (fun p q wx => ∃ g, p = .pointer (some ⟨g, 0, none⟩) ∧ q = .bool b ∧ Hid (Got w.heap.size w W1 wx g #[.int .u8 kind, .int .i32 0, .float .f64 num, .string str, .int .i32 0, .int .i32 0, .int .u8 fl]))
  case first =>
    clear Z1 HD
    go_region_with (first
      | (go_at_call 18; refine (ref_any _ _ (by omega) (by omega)).mono ?_; rintro e w' ⟨rfl, rfl⟩)
      | (go_at_call 25; refine (HF.out _ (by (repeat first | exact b1 | refine Below.drew ?_ | refine Below.alloc ?_ ?_ _); all_goals (try simp only [size_of_alloc, size_of_drew]); all_goals omega)).out.mono ?_; rintro e w1 ⟨rfl, hb1⟩; obtain ⟨hc1', hf1'⟩ := bcell hb1; have q1 : w1.cell? ⟨oh, 0, none⟩ = some (.pointer (some ⟨hp, 0, none⟩)) := (by first | exact (hb1.cell (p := ⟨oh, 0, none⟩) l1).trans hc1 | exact (hb1.cell (p := ⟨oh, 0, none⟩) (by simp only [size_of_alloc, size_of_drew]; omega)).trans ((World.cell?_alloc_lt _ _ _ l1).trans hc1)); have hq0 : W1.heap.size ≤ w1.heap.size := (by have := hb1.size; (try simp only [size_of_alloc, size_of_drew] at this); omega); have q0 : oh < w1.heap.size := Nat.lt_of_lt_of_le l1 hq0; (try have hq1 : W1.heap.size < w1.heap.size := (by have := hb1.size; simp only [size_of_alloc, size_of_drew] at this; omega)); have F1 := Lib.hid (Below.trans (by (repeat first | exact b1 | refine Below.drew ?_ | refine Below.alloc ?_ ?_ _); all_goals (try simp only [size_of_alloc, size_of_drew]); all_goals omega) (hb1.mono (by (try simp only [size_of_alloc, size_of_drew]); omega)) : Below w.heap.size w w1); have G1 : Hid (w1.heap[w.heap.size]? = W1.heap[w.heap.size]?) := (hb1.block w.heap.size (by (try simp only [size_of_alloc, size_of_drew]); omega)).trans (by first | rfl | exact Below.heap_alloc _ _ _ hz1); (try have K1 : Hid (w1.heap[W1.heap.size]? = some (.cells #[.int .u8 0, .int .i32 0, .float .f64 0, .string ⟨#[]⟩, .int .i32 0, .int .i32 0, .int .u8 0] 66 (0, 0))) := (hb1.block W1.heap.size (by simp only [size_of_alloc, size_of_drew]; omega)).trans (heap_new _ _)))
      | (go_at_call 24; refine (HO.out _ (by (repeat first | exact F1.out | refine Below.drew ?_ | refine Below.alloc ?_ ?_ _); all_goals (try simp only [size_of_alloc, size_of_drew]); all_goals omega)).out.mono ?_; rintro e w2 ⟨rfl, hb2⟩; obtain ⟨hc2', hf2'⟩ := bcell hb2; have hq2 : w1.heap.size ≤ w2.heap.size := (by have := hb2.size; (try simp only [size_of_alloc] at this); omega); have F2 := Lib.hid (Below.trans (by (repeat first | exact F1.out | refine Below.drew ?_ | refine Below.alloc ?_ ?_ _); all_goals (try simp only [size_of_alloc, size_of_drew]); all_goals omega) (hb2.mono (by (try simp only [size_of_alloc]); omega)) : Below w.heap.size w w2); have G2 : Hid (w2.heap[w.heap.size]? = W1.heap[w.heap.size]?) := ((hb2.block w.heap.size (by (try simp only [size_of_alloc]); omega)).trans (by first | rfl | exact Below.heap_alloc _ _ _ (by omega))).trans G1.out; (first | have K2 : Hid (w2.heap[w1.heap.size]? = some (.cells #[.int .u8 0, .int .i32 0, .float .f64 0, .string ⟨#[]⟩, .int .i32 0, .int .i32 0, .int .u8 0] 66 (0, 0))) := (hb2.block w1.heap.size (by simp only [size_of_alloc]; omega)).trans (heap_new _ _) | have K2 : Hid (w2.heap[W1.heap.size]? = some (.cells #[.int .u8 0, .int .i32 0, .float .f64 0, .string ⟨#[]⟩, .int .i32 0, .int .i32 0, .int .u8 0] 66 (0, 0))) := (hb2.block W1.heap.size (by omega)).trans K1.out | skip)))
    all_goals clear hc2' hf2' hc1' hf1'
    all_goals go_wp2_with fail
    all_goals go_meet
    all_goals refine ⟨_, rfl, rfl, Lib.hid ?_⟩
    all_goals first | (with_reducible exact gotA F2.out G2.out (by omega)) | (with_reducible exact gotB F2.out G2.out K2.out (by omega))

  case rest =>
    clear HO HF HH hc1
    obtain ⟨g, rfl, rfl, hG⟩ := hcut
    obtain ⟨gb, gn, gg⟩ := hG.out
    have e2 := gn.trans Z1.out
    have lz := lt_of_heap e2
    have E2 := Lib.hid e2
    have E1 := Lib.hid gg
    have GB := Lib.hid gb
    clear e2 gg gb gn hG Z1 b1
    cases b with
    | false =>
      obtain rfl : D = zeroDesc := HD.out
      go_wp2_with (first | (refine wpList_store_row rfl 33 (.tmp 6) (.tmp 33) rfl w.heap.size _ rfl rfl 33 _ E2.out (by kernel_rfl) rfl (by simp [Value.oneCell']) ?_))
      refine bodyPost_ret (results_cell_tmp rfl _ _ w.heap.size 33 _ (0, 0) _ _ rfl rfl (setRow_heap _ _ _ _ _ _ E2.out) Tryz.underlying33 rfl (by kernel_rfl)) rfl ⟨rfl, ?_⟩
      exact below_setRow GB.out (Nat.le_refl _) _
    | true =>
      obtain ⟨HT, hsz, hone⟩ := HD.out
      have HT := fun W => Lib.hid (HT W)
      have HS := Lib.hid hsz
      have HN := Lib.hid hone
      clear hsz hone HD
      go_wp2_with (first
        | (refine wpList_load_row rfl 66 (.tmp 8) rfl g rfl 66 _ (0, 0) _ E1.out Tryz.underlying66 rfl (by kernel_rfl) ?_)
        | (go_at_call 26; refine (HT _).out.mono ?_; rintro e w3 ⟨rfl, hb3⟩; have e3 := Lib.hid ((hb3.block w.heap.size lz).trans E2.out); have G3 := Lib.hid (GB.out.trans (hb3.mono (Nat.le_of_lt lz))); clear hb3)
        | (refine wpList_store_row rfl 33 (.tmp 6) (.tmp 35) rfl w.heap.size _ rfl rfl 33 _ e3.out (by rw [HS.out]; kernel_rfl) (by rw [HS.out]; rfl) HN.out ?_))
      refine bodyPost_ret (results_cell_tmp rfl _ _ w.heap.size 33 _ (0, 0) _ _ rfl rfl (setRow_heap _ _ _ _ _ _ e3.out) Tryz.underlying33 rfl (by rw [HS.out]; kernel_rfl)) rfl ⟨rfl, ?_⟩
      exact below_setRow G3.out (Nat.le_refl _) _
end Go.Proofs.YtlacgdnidilndaaGreatDoor
