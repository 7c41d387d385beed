/- The model's disk: create. -/
import Derived.Test.YtfhcecfddejcdaaVdsx
import Derived.Deep.RegionLaw
namespace Go.Proofs.Ytfhcecfddejcdaa
attribute [local go_sem ↓] Go.wp_at_zero Go.wp_at_succ
open Go.RowKit Go.Maps

theorem str_info : (Try.prog.info? 9).map (fun i => (i.zero, i.size, i.bytes)) = some (some (.string ⟨#[]⟩), 1, 16) := by kernel_rfl
theorem row_base {w : World} {b b' : Nat} {e : TypeId} {size n : Nat} {v : Value} {xs : List Value} (h : w.ownsRow b e size v n xs) (hb : b' ≤ b) : w.ownsRow b' e size v n xs := by
  obtain ⟨h1, h2⟩ := h
  refine ⟨h1, ?_⟩
  rcases h2 with h2 | ⟨g, cap, cur, rfl, hg, r⟩
  · exact .inl h2
  · exact .inr ⟨g, cap, cur, rfl, Nat.le_trans hb hg, r⟩
def CreatePost (n : Nat) (w : World) (e : Ending) (w' : World) : Prop :=
  ∃ db F, e = .returned (.pointer (some ⟨db, 0, none⟩)) ∧ DskF w' db (VS.new n) F ∧ Below w.heap.size w w' ∧ ∀ i, i ∈ F → w.heap.size ≤ i
set_option maxRecDepth 100000 in
set_option maxHeartbeats 1000000 in
theorem create_any (n : Nat) (hn1 : 1 ≤ n) (hn2 : n ≤ 65536) (w : World) : Calls Try.prog 37 #[.int .i64 (n : Int)] w (CreatePost n w) := by
  obtain ⟨i0, hi0, hz0, hz1, hz2⟩ := info_parts str_info
  have HI := Lib.hid (And.intro hi0 (And.intro hz0 (And.intro hz1 hz2)))
  have HN := Lib.hid (And.intro hn1 hn2)
  clear hi0 hz0 hz1 hz2 hn1 hn2
  go_enter Try.func37, Try.ntmps37
  go_wp2
  go_loopw [4] (fun i wr => ∃ (k : Nat) (ao : Option Addr) (cap : Nat), k ≤ n ∧ i = .int .i64 k ∧ Blk wr w.heap.size 85 #[.slice ao k cap, .slice none 0 0, .int .i64 (-1), .bool false] ∧
      wr.ownsRow w.heap.size 9 1 (.slice ao k cap) k (strs (List.replicate k zb)) ∧ Below w.heap.size w wr) (fun i _ => n - (intOf i).toNat)
  case atStart => exact ⟨0, none, 0, Nat.zero_le _, rfl, Blk.new w _ _, World.ownsRow_nil _ _ _ _, (Below.refl _ w).alloc (Nat.le_refl _) _⟩
  case round =>
    obtain ⟨k, ao, cap0, hk, rfl, hblk, hrow, hbel⟩ := hrel
    have lt := hblk.lt
    by_cases hlt : k < n
    · have c0 := hblk.cell 0
      have f0 := hblk.frozen 0
      simp at c0
      have hne := own_blk_ne hrow hblk (by decide)
      have hk2 : k < 65536 := by have := HN.out.2; omega
      go_wp2
      go_region_law (first
        | (refine step_append_lies _ (by rfl) _ _ _ (by rfl) w.heap.size 9 i0 _ 1 16 Try.underlying82 HI.out.1 HI.out.2.1 HI.out.2.2.1 HI.out.2.2.2 rfl (by omega) (.slice ao k cap0) k (strs (List.replicate k zb)) (by rfl) (hr1.alloc _)
            ⟨w1.heap.size, 0, none⟩ 1 1 [.string zb] (by rfl) (by rfl) (World.news_of_block (cs := #[.string zb]) (t := 9) (fr := (0, 0)) (heap_alloc_new w1 _)) (by simp [Value.oneCell'])
            (by omega) (by unfold maxLen; omega) (by omega) (by simp; omega) (w1.heap.size + 1) (by simp) ?_; intro g cap w2 hown hg hat hlt2; have c22 := (hg.cell_far ⟨w.heap.size, 0, none⟩ (by simp; omega) (Ne.symm hne)).trans (hcz _); have f22 := (hg.frozen_far ⟨w.heap.size, 0, none⟩ (by simp; omega) (Ne.symm hne)).trans (hfz _))
        | (go_simp; go_at_call 22; refine (lzero_any _).mono ?_; rintro e w1 ⟨rfl, hb0⟩; have hb : Below wr.heap.size wr w1 := ⟨hb0.os, hb0.tape, hb0.output, hb0.size, hb0.block⟩; have hr1 := row_turn hrow (Turn.ofBelow (F := []) hb (Nat.le_refl _)) (fun _ _ => by simp); have hsz := hb.size; have hwz := hbel.size; have c21 := (hb.cell (p := ⟨w.heap.size, 0, none⟩) lt).trans c0; have hcz : ∀ o, (w1.alloc o).cell? ⟨w.heap.size, 0, none⟩ = some (.slice ao k cap0) := fun o => (World.cell?_of_block (a := ⟨w.heap.size, 0, none⟩) (Below.heap_alloc _ _ w.heap.size (by omega))).trans c21; have hfz : ∀ o, (w1.alloc o).frozen? ⟨w.heap.size, 0, none⟩ = false := fun o => (World.frozen?_of_block (a := ⟨w.heap.size, 0, none⟩) (Below.heap_alloc _ _ w.heap.size (by omega))).trans ((hb.frozen (p := ⟨w.heap.size, 0, none⟩) lt).trans f0); clear hb0))
      all_goals
        have hbk1 : Blk w1 w.heap.size _ _ := (hb.block _ lt).trans hblk
        have hbk2 : Blk w2 w.heap.size _ _ := (hbk1.alloc _).grown hg (by
          intro e
          exact hne e.symm)
        have hS := hbk2.set_ 0 (.slice (some ⟨g, 0, none⟩) (k + 1) cap)
        have hgne : g ≠ w.heap.size := fun e => own_blk_ne hown hbk2 (by decide) (by rw [e]; rfl)
        have hO := row_turn hown ((Turn.refl [w.heap.size] w2).setCell (p := ⟨w.heap.size, 0, none⟩) (.inl (by simp)) (.slice (some ⟨g, 0, none⟩) (k + 1) cap)) (fun x hx hi => by
          have e1 : g = x := by simpa [Value.ownBlock] using hx
          have e2 : x = w.heap.size := by simpa using hi
          exact hgne (e1.trans e2))
        have hB2 : Below w.heap.size w w2 := ((hbel.trans (hb.mono hwz)).alloc (by omega) _).grown hg (by simp; omega) (fun x hx => by
          have := (hrow.lt x hx).1
          exact this)
        have HS := Lib.hid hS
        have HO := Lib.hid hO
        have HB2 := Lib.hid (hB2.setCell (p := ⟨w.heap.size, 0, none⟩) (Nat.le_refl _) (.slice (some ⟨g, 0, none⟩) (k + 1) cap))
        clear hcz hfz c21 hr1 hg hown hbk1 hbk2 hS hO hB2 hblk hrow
        go_wp2
        go_roundw
        case rel => exact ⟨k + 1, _, _, by omega, by go_num, HS.out, by rw [List.replicate_succ']; unfold strs; rw [List.map_append]; exact HO.out, HB2.out⟩
        case measure => simp [intOf]; omega
    · obtain rfl : k = n := by omega
      go_wp2
      go_ret
      refine ⟨w.heap.size, dfoot w.heap.size (.slice ao k cap0) (.slice none 0 0), rfl, ⟨_, _, ⟨hblk, ?_, World.ownsRow_nil _ _ _ _, VS.wf_new HN.out.1 HN.out.2⟩, rfl⟩, hbel, ?_⟩
      · have := row_base hrow (Nat.zero_le _)
        show wr.ownsRow 0 _ 1 _ (List.replicate k zb).length (strs (List.replicate k zb))
        rw [List.length_replicate]
        exact this
      · intro i hi
        unfold dfoot at hi
        rcases List.mem_cons.1 hi with rfl | hi
        · exact Nat.le_refl _
        · rcases List.mem_append.1 hi with hi | hi
          · exact (hrow.lt i (by simpa using hi)).1
          · simp [Value.ownBlock] at hi
end Go.Proofs.Ytfhcecfddejcdaa
