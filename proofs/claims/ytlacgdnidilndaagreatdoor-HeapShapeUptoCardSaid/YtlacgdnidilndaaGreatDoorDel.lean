/- slices.Delete of the first element of a row of wide elements. -/
import Derived.Test.YtlacgdnidilndaaGreatDoorLaws
import Derived.Test.YtlacgdnidilndaaGreatDoorReads
import Derived.Laws.IdiomCopy
import Derived.Sort.WalkB12
import Derived.Deep.MidRow
namespace Go.Proofs.YtlacgdnidilndaaGreatDoor
open Go.RowKit
open Go.Proofs (Tryz.prog)

theorem run_clear_row {P : Program} (w : World) (t e ty : TypeId) (zs : List Value) (ht : P.underlying t = some (.slice e)) (hv : ∀ w, (zeroValue e).run P w = .ok (.agg zs.toArray) w) (h1 : ∀ u ∈ zs, u.oneCell' = true) (b o c : Nat)
    (hc : ∀ j, j < zs.length → (w.cell? ⟨b, o + j, none⟩).isSome = true) (hf : ∀ j, j < zs.length → w.frozen? ⟨b, o + j, none⟩ = false) :
    (Builtin.clear_ #[t] ty #[.slice (some ⟨b, o, none⟩) 1 c]).run P w = .ok (.tuple #[]) (w.setCells b o zs) := by
  have hzc : (Builtin.zeroCells (Value.agg zs.toArray).cells 1).toList = zs := by
    have e : (Value.agg zs.toArray).cells = zs.toArray := rfl
    rw [e]
    simp only [Builtin.zeroCells]
    apply List.ext_getElem
    · simp
    · intro i h1 h2
      simp [Nat.mod_eq_of_lt h2, List.getElem?_eq_getElem h2]
  have hst := run_storeCells_cells (P := P) b o zs 0 w (by simpa using hc) (by simpa using hf) h1
  simp only [Nat.add_zero] at hst
  simp [Builtin.clear_, run_underlying ht, hv, hzc, hst]

theorem inf104 : (Tryz.prog.info? 104).map (fun i => i.size) = some 2 := by kernel_rfl
theorem full_of {p : Program} {t : TypeId} {n : Nat} (h : (p.info? t).map (fun i => i.size) = some n) : ∃ i0, p.info? t = some i0 ∧ i0.size = n := by
  cases hi : p.info? t with
  | none => rw [hi] at h; cases h
  | some i => exact ⟨i, rfl, by rw [hi] at h; simpa using h⟩
theorem full104 : ∃ i0, Tryz.prog.info? 104 = some i0 ∧ i0.size = 2 := full_of inf104
set_option maxHeartbeats 4000000 in
set_option maxRecDepth 100000 in
theorem delete_ent (g n cap : Nat) (cur : Array Value) (w : World) (hg : w.heap[g]? = some (.cells cur 104 (0, 0))) (hsz : cur.size = cap * 2) (h0 : 0 < n) (hn : n ≤ cap) (hm : cap ≤ 9223372036854775807) (hone : ∀ u ∈ (cur.toList.take (n * 2)).drop 2, u.oneCell' = true) :
    Calls Tryz.prog 93 #[.slice (some ⟨g, 0, none⟩) n cap, .int .i64 0, .int .i64 1] w fun e w' => e = .returned (.slice (some ⟨g, 0, none⟩) (n - 1) cap) ∧
      w' = (w.drew.setCells g 0 ((cur.toList.take (n * 2)).drop 2)).setCells g ((n - 1) * 2) [.string ⟨#[]⟩, .int .u8 0] := by
  obtain ⟨i0, hi0, hz1⟩ := full104
  obtain ⟨news, hnews⟩ : ∃ news, news = (cur.toList.take (n * 2)).drop 2 := ⟨_, rfl⟩
  rw [← hnews] at hone ⊢
  have hlen : news.length = (n - 1) * 2 := by rw [hnews]; simp; omega
  have hcell : ∀ j, w.drew.cell? ⟨g, j, none⟩ = cur[j]? := fun j => cell_of_block hg j
  have hfro : ∀ j, w.drew.frozen? ⟨g, j, none⟩ = false := fun j => unfrozen_of_block hg j
  have hget : ∀ t u, news[t]? = some u → cur[2 + t]? = some u := by
    intro t u hu
    have hlt : t < news.length := (List.getElem?_eq_some_iff.1 hu).1
    rw [hnews, List.getElem?_drop, List.getElem?_take, if_pos (by omega)] at hu
    simpa using hu
  obtain ⟨A, hA, hsrc⟩ : ∃ A : Addr, (if cap = 1 then (some (⟨g, 0, none⟩ : Addr)) else some ⟨g, 2, none⟩) = some A ∧ Hid (∀ t u, news[t]? = some u → w.drew.cell? (A.add t) = some u) := by
    by_cases h : cap = 1
    · refine ⟨⟨g, 0, none⟩, by simp [h], Lib.hid fun t u hu => ?_⟩
      have : news.length = 0 := by rw [hlen]; omega
      rw [List.length_eq_zero_iff.1 this] at hu
      simp at hu
    · refine ⟨⟨g, 2, none⟩, by simp [h], Lib.hid fun t u hu => ?_⟩
      rw [Addr.add_lit, hcell]
      exact hget t u hu
  have s1 : Hid (news.length = (n - 1) * 2) := Lib.hid hlen
  have s2 : Hid (∀ u ∈ news, u.oneCell' = true) := Lib.hid hone
  have s3 : Hid (∀ t, t < news.length → (w.drew.cell? ⟨g, 0 + 0 * 2 + t, none⟩).isSome = true ∧ w.drew.frozen? ⟨g, 0 + 0 * 2 + t, none⟩ = false) := Lib.hid (by
    intro t ht
    refine ⟨?_, hfro _⟩
    rw [hcell, Array.getElem?_eq_getElem (by omega)]
    rfl)
  obtain ⟨W1, hW1⟩ : ∃ W1, W1 = w.drew.setCells g (0 + 0 * 2) news := ⟨_, rfl⟩
  have hcl : ∀ ty, (Builtin.clear_ #[91] ty #[.slice (some ⟨g, (n - 1) * 2, none⟩) 1 (cap - (n - 1))]).run Tryz.prog W1 = .ok (.tuple #[]) (W1.setCells g ((n - 1) * 2) [.string ⟨#[]⟩, .int .u8 0]) :=
    fun ty => run_clear_row W1 91 104 ty [.string ⟨#[]⟩, .int .u8 0] Tryz.underlying91 Tryz.zeroValue104 (by intro u hu; simp at hu; rcases hu with rfl | rfl <;> rfl) g _ _ (fun j hj => by
      simp at hj
      rw [hW1]
      refine World.isSome_setCells g _ _ _ _ ?_
      rw [hcell, Array.getElem?_eq_getElem (by omega)]
      rfl) (fun j hj => by rw [hW1, World.frozen?_setCells]; exact hfro _)
  have hW : Hid (W1 = w.drew.setCells g (0 + 0 * 2) news) := Lib.hid hW1
  have e1 : n - (n - 1) = 1 := by omega
  have h1n : (1 : Int) ≤ (n : Int) := by omega
  have h1m : 1 ≤ n := h0
  clear hW1 hget hcell hfro hlen hnews hg hone
  go_enter Tryz.func93, Tryz.ntmps93
  go_wp2_with fail
  go_region_law (refine step_append_room rfl (.tmp 22) (.tmp 25) 91 rfl 104 i0 2 Tryz.underlying91 hi0 hz1 g 0 0 cap (by simp [Act.eval, Act.put]) A (n - 1) (cap - 1) news (by simp [Act.eval, Act.put]) s1.out hsrc.out s2.out (by omega) s3.out ?_; rw [← hW.out])
  go_wp2
  go_ret
  refine ⟨rfl, ?_⟩
  rw [hW.out]
theorem inf66 : (Tryz.prog.info? 66).map (fun i => i.size) = some 7 := by kernel_rfl
theorem full66 : ∃ i0, Tryz.prog.info? 66 = some i0 ∧ i0.size = 7 := full_of inf66
set_option maxHeartbeats 4000000 in
set_option maxRecDepth 100000 in
theorem delete_prop (g n cap : Nat) (cur : Array Value) (w : World) (hg : w.heap[g]? = some (.cells cur 66 (0, 0))) (hsz : cur.size = cap * 7) (h0 : 0 < n) (hn : n ≤ cap) (hm : cap ≤ 9223372036854775807) (hone : ∀ u ∈ (cur.toList.take (n * 7)).drop 7, u.oneCell' = true) :
    Calls Tryz.prog 94 #[.slice (some ⟨g, 0, none⟩) n cap, .int .i64 0, .int .i64 1] w fun e w' => e = .returned (.slice (some ⟨g, 0, none⟩) (n - 1) cap) ∧
      w' = (w.drew.setCells g 0 ((cur.toList.take (n * 7)).drop 7)).setCells g ((n - 1) * 7) [.int .u8 0, .int .i32 0, .float .f64 0, .string ⟨#[]⟩, .int .i32 0, .int .i32 0, .int .u8 0] := by
  obtain ⟨i0, hi0, hz1⟩ := full66
  obtain ⟨news, hnews⟩ : ∃ news, news = (cur.toList.take (n * 7)).drop 7 := ⟨_, rfl⟩
  rw [← hnews] at hone ⊢
  have hlen : news.length = (n - 1) * 7 := by rw [hnews]; simp; omega
  have hcell : ∀ j, w.drew.cell? ⟨g, j, none⟩ = cur[j]? := fun j => cell_of_block hg j
  have hfro : ∀ j, w.drew.frozen? ⟨g, j, none⟩ = false := fun j => unfrozen_of_block hg j
  have hget : ∀ t u, news[t]? = some u → cur[7 + t]? = some u := by
    intro t u hu
    have hlt : t < news.length := (List.getElem?_eq_some_iff.1 hu).1
    rw [hnews, List.getElem?_drop, List.getElem?_take, if_pos (by omega)] at hu
    simpa using hu
  obtain ⟨A, hA, hsrc⟩ : ∃ A : Addr, (if cap = 1 then (some (⟨g, 0, none⟩ : Addr)) else some ⟨g, 7, none⟩) = some A ∧ Hid (∀ t u, news[t]? = some u → w.drew.cell? (A.add t) = some u) := by
    by_cases h : cap = 1
    · refine ⟨⟨g, 0, none⟩, by simp [h], Lib.hid fun t u hu => ?_⟩
      have : news.length = 0 := by rw [hlen]; omega
      rw [List.length_eq_zero_iff.1 this] at hu
      simp at hu
    · refine ⟨⟨g, 7, none⟩, by simp [h], Lib.hid fun t u hu => ?_⟩
      rw [Addr.add_lit, hcell]
      exact hget t u hu
  have s1 : Hid (news.length = (n - 1) * 7) := Lib.hid hlen
  have s2 : Hid (∀ u ∈ news, u.oneCell' = true) := Lib.hid hone
  have s3 : Hid (∀ t, t < news.length → (w.drew.cell? ⟨g, 0 + 0 * 7 + t, none⟩).isSome = true ∧ w.drew.frozen? ⟨g, 0 + 0 * 7 + t, none⟩ = false) := Lib.hid (by
    intro t ht
    refine ⟨?_, hfro _⟩
    rw [hcell, Array.getElem?_eq_getElem (by omega)]
    rfl)
  obtain ⟨W1, hW1⟩ : ∃ W1, W1 = w.drew.setCells g (0 + 0 * 7) news := ⟨_, rfl⟩
  have hcl : ∀ ty, (Builtin.clear_ #[85] ty #[.slice (some ⟨g, (n - 1) * 7, none⟩) 1 (cap - (n - 1))]).run Tryz.prog W1 = .ok (.tuple #[]) (W1.setCells g ((n - 1) * 7) [.int .u8 0, .int .i32 0, .float .f64 0, .string ⟨#[]⟩, .int .i32 0, .int .i32 0, .int .u8 0]) :=
    fun ty => run_clear_row W1 85 66 ty [.int .u8 0, .int .i32 0, .float .f64 0, .string ⟨#[]⟩, .int .i32 0, .int .i32 0, .int .u8 0] Tryz.underlying85 Tryz.zeroValue66 (by intro u hu; simp at hu; rcases hu with rfl | rfl | rfl | rfl | rfl | rfl <;> rfl) g _ _ (fun j hj => by
      simp at hj
      rw [hW1]
      refine World.isSome_setCells g _ _ _ _ ?_
      rw [hcell, Array.getElem?_eq_getElem (by omega)]
      rfl) (fun j hj => by rw [hW1, World.frozen?_setCells]; exact hfro _)
  have hW : Hid (W1 = w.drew.setCells g (0 + 0 * 7) news) := Lib.hid hW1
  have e1 : n - (n - 1) = 1 := by omega
  have h1n : (1 : Int) ≤ (n : Int) := by omega
  have h1m : 1 ≤ n := h0
  clear hW1 hget hcell hfro hlen hnews hg hone
  go_enter Tryz.func94, Tryz.ntmps94
  go_wp2_with fail
  go_region_law (refine step_append_room rfl (.tmp 22) (.tmp 25) 85 rfl 66 i0 7 Tryz.underlying85 hi0 hz1 g 0 0 cap (by simp [Act.eval, Act.put]) A (n - 1) (cap - 1) news (by simp [Act.eval, Act.put]) s1.out hsrc.out s2.out (by omega) s3.out ?_; rw [← hW.out])
  go_wp2
  go_ret
  refine ⟨rfl, ?_⟩
  rw [hW.out]
end Go.Proofs.YtlacgdnidilndaaGreatDoor
