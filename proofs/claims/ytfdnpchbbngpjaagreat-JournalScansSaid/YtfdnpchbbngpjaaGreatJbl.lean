/- The book of a blank device. -/
import Derived.Test.YtfdnpchbbngpjaaGreatJbh
import Derived.Deep.OwnRows
namespace Go.Proofs.YtfdnpchbbngpjaaGreat
attribute [local go_sem ↓] Go.wp_at_zero Go.wp_at_succ
open Go.RowKit Go.Maps

theorem u8_info' : (Tryz.prog.info? 5).map (fun i => (i.zero, i.size, i.bytes)) = some (some (.int .u8 0), 1, 1) := by kernel_rfl
theorem made_bytes (n : Nat) : (madeCells #[Value.int .u8 0] n).toList = Lib.byteCells (List.replicate n 0) := by
  have h := toList_madeCells_one (Value.int .u8 0) n
  rw [h]
  unfold Lib.byteCells
  rw [List.map_replicate]
  rfl
theorem H256.zero {w : World} {g : Nat} (h : w.heap[g]? = some (.cells (madeCells #[Value.int .u8 0] 256) 5)) : H256 w g (List.replicate 256 0) := by
  refine ⟨_, _, h, fun j hj => ?_, List.length_replicate⟩
  rw [← Array.getElem?_toList, made_bytes]
  unfold Lib.byteCells
  rw [List.getElem?_map, List.getElem?_replicate, if_pos hj, List.getD_eq_getElem?_getD, List.getElem?_replicate, if_pos hj]
  rfl
theorem made_size (n : Nat) : (madeCells #[Value.int .u8 0] n).size = n := by
  rw [← Array.length_toList, made_bytes, Lib.byteCells_length, List.length_replicate]
theorem row_zero {w : World} {g n : Nat} (h : w.heap[g]? = some (.cells (madeCells #[Value.int .u8 0] n) 5)) (hn : n ≤ 1048576) : w.ownsRow 0 5 1 (.slice (some ⟨g, 0, none⟩) n n) n (Lib.byteCells (List.replicate n 0)) :=
  ⟨by rw [Lib.byteCells_length, List.length_replicate, Nat.mul_one], .inr ⟨g, n, _, rfl, Nat.zero_le _, h, Nat.le_refl _, by unfold maxLen; omega, by rw [made_size, Nat.mul_one], by rw [Nat.mul_one, ← made_bytes, List.take_of_length_le (by rw [Array.length_toList, made_size]; exact Nat.le_refl _)]⟩⟩
theorem blank_bk {W : World} {b i j k m : Nat} (hm : m ≤ 64) (hb : W.heap[b]? = some (.cells #[.slice (some ⟨i, 0, none⟩) 256 256, .slice (some ⟨j, 0, none⟩) 256 256, .slice (some ⟨k, 0, none⟩) (256 * m) (256 * m), .int .i64 0, .int .i64 1, .int .i64 0, .slice none 0 0] 36))
    (hi : W.heap[i]? = some (.cells (madeCells #[Value.int .u8 0] 256) 5)) (hj : W.heap[j]? = some (.cells (madeCells #[Value.int .u8 0] 256) 5)) (hk : W.heap[k]? = some (.cells (madeCells #[Value.int .u8 0] (256 * m)) 5)) (hik : i ≠ k) (hjk : j ≠ k) :
    Bk W b i j k 256 256 (256 * m) (.slice none 0 0) (BS.blank m) := by
  have hal : (BS.blank m).area.length = 256 * m := List.length_replicate
  refine ⟨?_, H256.zero hi, H256.zero hj, Nat.le_refl _, Nat.le_refl _, ?_, World.ownsRow_nil _ _ _ _, hik, hjk⟩
  · rw [hal]; exact hb
  · rw [hal]; exact row_zero hk (by omega)
theorem four (w : World) (o1 o2 o3 o4 : Obj) (W : World) (hW : W = ((((w.alloc o1).alloc o2).alloc o3).alloc o4).drew) :
    Below w.heap.size w W ∧ W.heap[w.heap.size]? = some o1 ∧ W.heap[w.heap.size + 1]? = some o2 ∧ W.heap[w.heap.size + 1 + 1]? = some o3 ∧ W.heap[w.heap.size + 1 + 1 + 1]? = some o4 := by
  have hh : W.heap = (((w.heap.push o1).push o2).push o3).push o4 := by rw [hW]; rfl
  refine ⟨?_, ?_, ?_, ?_, ?_⟩
  · rw [hW]
    exact (((((Below.refl _ w).alloc (Nat.le_refl _) _).alloc (by simp) _).alloc (by simp; omega) _).alloc (by simp; omega) _).drew
  all_goals
    rw [hh]
    simp only [Array.getElem?_push, Array.size_push]
    repeat (first | rw [if_pos trivial] | rw [if_pos (by omega)] | rw [if_neg (by omega)])
theorem blank_fin (w : World) (o1 o2 o3 : Obj) (i j k m : Nat) (hm : m ≤ 64) (h : ∀ W : World, W.heap[w.heap.size]? = some o1 → W.heap[w.heap.size + 1]? = some o2 → W.heap[w.heap.size + 1 + 1]? = some o3 →
      W.heap[i]? = some (.cells (madeCells #[Value.int .u8 0] 256) 5) ∧ W.heap[j]? = some (.cells (madeCells #[Value.int .u8 0] 256) 5) ∧ W.heap[k]? = some (.cells (madeCells #[Value.int .u8 0] (256 * m)) 5)) (hik : i ≠ k) (hjk : j ≠ k) (hge : w.heap.size ≤ i ∧ w.heap.size ≤ j ∧ w.heap.size ≤ k) {W : World}
    (hW : W = ((((w.alloc o1).alloc o2).alloc o3).alloc (.cells #[.slice (some ⟨i, 0, none⟩) 256 256, .slice (some ⟨j, 0, none⟩) 256 256, .slice (some ⟨k, 0, none⟩) (256 * m) (256 * m), .int .i64 0, .int .i64 1, .int .i64 0, .slice none 0 0] 36)).drew) :
    BkF W (w.heap.size + 1 + 1 + 1) (BS.blank m) (bfoot (w.heap.size + 1 + 1 + 1) i j k (.slice none 0 0)) ∧ Below w.heap.size w W ∧ ∀ x, x ∈ bfoot (w.heap.size + 1 + 1 + 1) i j k (.slice none 0 0) → w.heap.size ≤ x := by
  obtain ⟨f0, f1, f2, f3, f4⟩ := four w o1 o2 o3 _ W hW
  obtain ⟨a, b, c⟩ := h W f1 f2 f3
  refine ⟨⟨_, _, _, _, _, _, _, blank_bk hm f4 a b c hik hjk, rfl⟩, f0, fun x hx => ?_⟩
  simp [bfoot, Value.ownBlock] at hx
  rcases hx with rfl | rfl | rfl | rfl <;> omega
set_option maxRecDepth 100000 in
set_option maxHeartbeats 4000000 in
theorem blank_any (m : Nat) (hm : m ≤ 64) (w : World) : Calls Tryz.prog 32 #[.int .i64 ((m : Int) + 2)] w fun e w' => ∃ b G, e = .returned (.pointer (some ⟨b, 0, none⟩)) ∧ BkF w' b (BS.blank m) G ∧ Below w.heap.size w w' ∧ ∀ i, i ∈ G → w.heap.size ≤ i := by
  have h1 : ∀ w : World, (Instr.makeSlice 31 (.int .i64 256) (.int .i64 256)).run Tryz.prog w = .ok (.slice (some ⟨w.heap.size, 0, none⟩) 256 256) (w.alloc (.cells (madeCells #[.int .u8 0] 256) 5)) := fun w => run_make_row' (P := Tryz.prog) 31 5 (.int .u8 0) 1 Tryz.underlying31 u8_info' rfl .i64 .i64 256 (by decide) (by decide) w
  have h2 : ∀ w : World, (Instr.makeSlice 31 (.int .i64 ((m : Int) * 256)) (.int .i64 ((m : Int) * 256))).run Tryz.prog w = .ok (.slice (some ⟨w.heap.size, 0, none⟩) (256 * m) (256 * m)) (w.alloc (.cells (madeCells #[.int .u8 0] (256 * m)) 5)) := fun w => by
    have := run_make_row' (P := Tryz.prog) 31 5 (.int .u8 0) 1 Tryz.underlying31 u8_info' rfl .i64 .i64 (256 * m) (by omega) (by omega) w
    rw [show ((256 * m : Nat) : Int) = (m : Int) * 256 by omega] at this
    exact this
  have e1 : (m : Int) + 2 - 2 = (m : Int) := by omega
  go_enter Tryz.func32, Tryz.ntmps32
  go_wp2_with fail
  go_region
  all_goals
    go_wp2_with fail
    go_ret
    refine ⟨w.heap.size + 1 + 1 + 1, _, rfl, blank_fin w _ _ _ _ _ _ m hm ?_ ?_ ?_ ?_ rfl⟩
    · intro W a b c
      exact ⟨by assumption, by assumption, by assumption⟩
    · omega
    · omega
    · omega
end Go.Proofs.YtfdnpchbbngpjaaGreat
