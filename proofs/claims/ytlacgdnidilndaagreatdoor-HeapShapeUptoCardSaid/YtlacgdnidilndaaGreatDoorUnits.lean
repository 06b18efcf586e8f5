/- The units of a text, packed: contracts of units.Units, units.Pack, units.Of. -/
import Derived.Test.YtlacgdnidilndaaGreatDoorStrs
namespace Go.Proofs.YtlacgdnidilndaaGreatDoor
open Go.RowKit
open Go.Proofs (Tryz.prog)

theorem info61 : (Tryz.prog.info? 61).map (fun i => (i.zero, i.size, i.bytes)) = some (some (.int .u16 0), 1, 2) := by kernel_rfl
theorem info5 : (Tryz.prog.info? 5).map (fun i => (i.zero, i.size, i.bytes)) = some (some (.int .u8 0), 1, 1) := by kernel_rfl
theorem own_below {w w' : World} {base : Nat} {e : TypeId} {size : Nat} {v : Value} {n : Nat} {xs : List Value} (h : w.ownsRow base e size v n xs) (hb : Below w.heap.size w w') : w'.ownsRow base e size v n xs :=
  h.kept (row := none) ⟨hb.os, hb.tape, hb.output, hb.size, fun k hk _ => hb.block k hk⟩ (by cases hv : v.ownBlock <;> simp)
theorem tabs_below {w w' : World} {B : Nat} (h : Lib.Utf8Tabs 2 3 w) (hb : Below B w w') (hB : 3 < B) : Lib.Utf8Tabs 2 3 w' :=
  ⟨fun c hc => (hb.cell (p := ⟨2, c, none⟩) (by simp; omega)).trans (h.1 c hc), fun i hi => ⟨(hb.cell (p := ⟨3, 2 * i, none⟩) (by simp; omega)).trans (h.2 i hi).1, (hb.cell (p := ⟨3, 2 * i + 1, none⟩) (by simp; omega)).trans (h.2 i hi).2⟩⟩
theorem tabs_size {w : World} (h : Lib.Utf8Tabs 2 3 w) : 3 < w.heap.size := World.block_lt_of_cell? w _ (h.2 0 (by omega)).1

def u16s (l : List Nat) : List Value := l.map fun u : Nat => Value.int .u16 (u : Int)
theorem u16s_append (l m : List Nat) : u16s (l ++ m) = u16s l ++ u16s m := by simp [u16s]
theorem u16s_length (l : List Nat) : (u16s l).length = l.length := by simp [u16s]

theorem u16s_pair (r : Nat) (h1 : 65536 ≤ r) : u16s (unitsR r) = [.int .u16 (55296 + ((r : Int) - 65536) / 1024), .int .u16 (56320 + ((r : Int) - 65536) % 1024)] := by
  have e1 : ((55296 + (r - 65536) / 1024 : Nat) : Int) = 55296 + ((r : Int) - 65536) / 1024 := by omega
  have e2 : ((56320 + (r - 65536) % 1024 : Nat) : Int) = 56320 + ((r : Int) - 65536) % 1024 := by omega
  unfold unitsR u16s
  rw [if_pos h1, List.map_cons, List.map_cons, List.map_nil, e1, e2]
theorem u16s_one (r : Nat) (h1 : ¬ 65536 ≤ r) : u16s (unitsR r) = [.int .u16 (r : Int)] := by
  unfold unitsR u16s
  rw [if_neg h1, List.map_cons, List.map_nil]

set_option maxHeartbeats 1000000 in
set_option maxRecDepth 100000 in
theorem units_any (s : ByteArray) (w : World) (hs : s.size ≤ 2097152) (hT : Lib.Utf8Tabs 2 3 w) :
    Calls Tryz.prog 40 #[.string s] w fun e w' => ∃ v, e = .returned v ∧ w'.ownsRow w.heap.size 61 1 v (unitsOf s).length (u16s (unitsOf s)) ∧ Below w.heap.size w w' := by
  obtain ⟨i0, hi, hz0, hz1, hz2⟩ := info_parts info61
  have HT := Lib.hid hT
  clear hT
  go_enter Tryz.func40, Tryz.ntmps40
  go_wp2
  go_loopw [0, 3] (fun sv v wr => ∃ (t : ByteArray) (l : List Nat), sv = .string t ∧ t.size ≤ s.size ∧ l ++ unitsOf t = unitsOf s ∧ l.length + t.size ≤ s.size ∧ wr.ownsRow w.heap.size 61 1 v l.length (u16s l) ∧ Below w.heap.size w wr)
    (fun sv _ _ => match sv with | .string t => t.size | _ => 0)
  case atStart => exact ⟨s, [], rfl, Nat.le_refl _, rfl, by simp, World.ownsRow_nil _ _ _ _, Below.refl _ _⟩
  case round =>
    obtain ⟨t, l, rfl, ht, hl, hll, hown, hB⟩ := hrel
    have Hl := Lib.hid hl
    clear hl
    by_cases h0 : 0 < t.size
    · obtain ⟨hn1, hn2, hn3, hn4, _⟩ := next_facts t h0
      have hB1 : ∀ w1 : World, Below wr.heap.size wr w1 → Below w.heap.size w w1 := fun w1 h => hB.trans (h.mono hB.size)
      have HB1 := Lib.hid hB1
      have HN := Lib.hid (next_any t wr (by omega) (tabs_below HT.out hB (tabs_size HT.out)))
      have hst := unitsOf_step t h0
      obtain ⟨r, n, hrn⟩ : ∃ r n, nextR t = (r, n) := ⟨_, _, rfl⟩
      rw [hrn] at hn1 hn2 hn3 hn4 HN hst
      simp only at hn1 hn2 hn3 hn4 HN hst
      have H4 := Lib.hid hn4
      have Hst := Lib.hid hst
      clear hn4 hB1 hst hrn
      by_cases hr : 65536 ≤ r
      · have hr' : (65536 : Int) ≤ r := by omega
        have f1 : bits BinOp.and IntKind.i32 ((r : Int) - 65536) 1023 = ((r : Int) - 65536) % 1024 := bits_mask .i32 31 (by decide) wraps_i32 10 (by decide) _ (by omega) (by omega)
        go_wp2_with (first | (go_at_call 60; refine HN.out.mono ?_; rintro e w1 ⟨rfl, hb1⟩; have hown1 := own_below hown hb1; have hzw : wr.heap.size ≤ w1.heap.size := hb1.size; have hzo : w.heap.size ≤ wr.heap.size := hB.size) | (at_builtin; (refine wpList_append_lies _ rfl (.tmp 21) (.tmp 30) 58 rfl w.heap.size 61 i0 (.int .u16 0) 1 2 Tryz.underlying58 hi hz0 hz1 hz2 rfl (by decide) _ _ _ rfl (hown1.alloc _) ⟨w1.heap.size, 0, none⟩ 2 2 _ rfl ?c1 (World.news_of_block (heap_alloc_new _ _)) ?c2 (by decide) ?c3 ?c4 ?c5 _ rfl ?_)))
        case c2 => exact ⟨rfl, rfl⟩
        case c3 => unfold maxLen; omega
        case c4 => omega
        case c5 => simp; omega
        intro g cap w2 hown2 hgr2 hat2 hlt2
        go_wp2
        go_roundw
        case rel =>
          have hts := Lib.tail_size t n
          have h4 := H4.out hr
          refine ⟨_, l ++ unitsR r, rfl, by omega, ?_, ?_, ?_, ?_⟩
          · rw [List.append_assoc, ← Hst.out]; exact Hl.out
          · rw [List.length_append, unitsR_length, if_pos hr]; omega
          · rw [u16s_append, List.length_append, unitsR_length, if_pos hr]
            rw [u16s_pair _ hr]
            exact hown2
          · exact ((HB1.out w1 hb1).alloc (by omega) _).grown hgr2 (by simp; omega) (by intro k hk; exact (hown1.lt k hk).1)
        case measure =>
          have hts := Lib.tail_size t n
          simp only
          omega
      · have hr' : (r : Int) < 65536 := by omega
        have hd : decide ((65536 : Int) ≤ (r : Int)) = false := by simp only [decide_eq_false_iff_not]; omega
        clear hr hn3 H4
        go_wp2_with (first | (go_at_call 60; refine HN.out.mono ?_; rintro e w1 ⟨rfl, hb1⟩; have hown1 := own_below hown hb1; have hzw : wr.heap.size ≤ w1.heap.size := hb1.size; have hzo : w.heap.size ≤ wr.heap.size := hB.size) | (at_builtin; (refine wpList_append_lies _ rfl (.tmp 32) (.tmp 35) 58 rfl w.heap.size 61 i0 (.int .u16 0) 1 2 Tryz.underlying58 hi hz0 hz1 hz2 rfl (by decide) _ _ _ rfl (hown1.alloc _) ⟨w1.heap.size, 0, none⟩ 1 1 _ rfl ?d1 (World.news_of_block (heap_alloc_new _ _)) ?d2 (by decide) ?d3 ?d4 ?d5 _ rfl ?_)))
        case d2 => exact rfl
        case d3 => unfold maxLen; omega
        case d4 => omega
        case d5 => simp; omega
        intro g cap w2 hown2 hgr2 hat2 hlt2
        go_wp2
        go_roundw
        case rel =>
          have hts := Lib.tail_size t n
          refine ⟨_, l ++ unitsR r, rfl, by omega, ?_, ?_, ?_, ?_⟩
          · rw [List.append_assoc, ← Hst.out]; exact Hl.out
          · rw [List.length_append, unitsR_length, if_neg (by omega)]; omega
          · rw [u16s_append, List.length_append, unitsR_length, if_neg (by omega)]
            rw [u16s_one _ (by omega)]
            exact hown2
          · exact ((HB1.out w1 hb1).alloc (by omega) _).grown hgr2 (by simp; omega) (by intro k hk; exact (hown1.lt k hk).1)
        case measure =>
          have hts := Lib.tail_size t n
          simp only
          omega
    · go_wp2
      go_ret
      have e0 : unitsOf t = [] := unitsOf_empty t (by omega)
      have e1 : unitsOf s = l := by rw [← Hl.out, e0, List.append_nil]
      rw [e1]
      exact ⟨_, rfl, hown, hB⟩
end Go.Proofs.YtlacgdnidilndaaGreatDoor
