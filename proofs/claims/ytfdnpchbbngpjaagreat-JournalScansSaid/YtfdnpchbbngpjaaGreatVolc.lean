/- A device: New, Len, Down, Crash, Limit, Durable. -/
import Derived.Test.YtfdnpchbbngpjaaGreatVolb
namespace Go.Proofs.YtfdnpchbbngpjaaGreat
open Go.RowKit Go.Maps

def NewPost (n : Int) (w : World) (e : Ending) (w' : World) : Prop :=
  if 1 ≤ n ∧ n ≤ 65536 then ∃ vb F, e = .returned (.tuple #[.pointer (some ⟨vb, 0, none⟩), .int .i64 0]) ∧ VolF w' vb (VS.new n.toNat) F ∧ Below w.heap.size w w' ∧ ∀ i, i ∈ F → w.heap.size ≤ i
  else e = .returned (.tuple #[.pointer none, .int .i64 2]) ∧ w = w'

theorem MD_new (n : Nat) : MD (List.replicate n zb) = .map [] := by
  unfold MD
  have : ∀ k, mdL (List.replicate n zb) k = [] := by
    induction n with
    | zero => intro k; rfl
    | succ n ih => intro k; rw [List.replicate_succ]; unfold mdL; rw [if_pos rfl]; exact ih _
  rw [this]

set_option maxRecDepth 100000 in
theorem new_no (n : Int) (w : World) (h : ¬ (1 ≤ n ∧ n ≤ 65536)) :
    Calls Tryz.prog 30 #[.int .i64 n] w fun e w' => e = .returned (.tuple #[.pointer none, .int .i64 2]) ∧ w = w' := by
  by_cases h1 : n < 1
  · have d1 : decide (n < 1) = true := by simpa using h1
    clear h
    go_enter Tryz.func30, Tryz.ntmps30
    go_wp2
    go_ret2
    exact ⟨rfl, rfl⟩
  · have d1 : decide (n < 1) = false := by simpa using h1
    have d2 : decide (65536 < n) = true := by simp; omega
    clear h h1
    go_enter Tryz.func30, Tryz.ntmps30
    go_wp2
    go_ret2
    exact ⟨rfl, rfl⟩

set_option maxRecDepth 100000 in
set_option maxHeartbeats 400000 in
theorem new_yes (n : Nat) (w : World) (h1 : 1 ≤ n) (h2 : n ≤ 65536) :
    Calls Tryz.prog 30 #[.int .i64 (n : Int)] w fun e w' => ∃ vb F, e = .returned (.tuple #[.pointer (some ⟨vb, 0, none⟩), .int .i64 0]) ∧ VolF w' vb (VS.new n) F ∧ Below w.heap.size w w' ∧ ∀ i, i ∈ F → w.heap.size ≤ i := by
  have d1 : decide ((n : Int) < 1) = false := by simp; omega
  have d2 : decide (65536 < (n : Int)) = false := by simp; omega
  have hwf := VS.wf_new h1 h2
  have hmm := @run_makeMap Tryz.prog
  clear h1 h2
  go_enter Tryz.func30, Tryz.ntmps30
  go_wp2
  go_ret2
  have hm := (World.ownsMap_made (H := Unit) w Tryz.prog 3 (plainElem Tryz.prog 9)).alloc (.cells #[.int .i64 (n : Int), .map (some w.heap.size), .slice none 0 0, .bool false, .int .i64 0, .bool false] 80)
  refine ⟨w.heap.size + 1, foot (w.heap.size + 1) w.heap.size (.slice none 0 0), rfl, ⟨w.heap.size, .slice none 0 0, ⟨?_, ?_, ?_, hwf⟩, rfl⟩, ?_, ?_⟩
  · have hb := Blk.new (w.alloc (.map #[] 0)) 80 #[.int .i64 (n : Int), .map (some w.heap.size), .slice none 0 0, .bool false, .int .i64 0, .bool false]
    have e1 : (w.alloc (.map #[] 0)).heap.size = w.heap.size + 1 := by simp
    rw [e1] at hb
    have e2 : ((VS.new n).dur.length : Int) = (n : Int) := by simp [VS.new]
    rw [e2]
    exact hb
  · have e3 : (VS.new n).dur = List.replicate n zb := rfl
    rw [e3, MD_new]
    exact hm.mono (by simp)
  · exact World.ownsRow_nil _ _ _ _
  · exact ((Below.refl _ w).alloc (Nat.le_refl _) _).alloc (by simp) _
  · intro i hi
    simp [foot, Value.ownBlock] at hi
    omega

theorem len_any {w : World} {vb : Nat} {st : VS} {mb : Nat} {pv : Value} (h : Vol w vb st mb pv) :
    Calls Tryz.prog 36 #[.pointer (some ⟨vb, 0, none⟩)] w fun e w' => e = .returned (.int .i64 (st.dur.length : Int)) ∧ w = w' := by
  have c0 := h.blk.cell 0
  simp at c0
  clear h
  go_enter Tryz.func36, Tryz.ntmps36
  go_wp2
  go_ret
  exact ⟨rfl, rfl⟩
theorem down_any {w : World} {vb : Nat} {st : VS} {mb : Nat} {pv : Value} (h : Vol w vb st mb pv) :
    Calls Tryz.prog 14 #[.pointer (some ⟨vb, 0, none⟩)] w fun e w' => e = .returned (.bool st.down) ∧ w = w' := by
  have c5 := h.blk.cell 5
  simp at c5
  clear h
  go_enter Tryz.func14, Tryz.ntmps14
  go_wp2
  go_ret
  exact ⟨rfl, rfl⟩
theorem crash_any {w : World} {vb : Nat} {st : VS} {mb : Nat} {pv : Value} (h : Vol w vb st mb pv) :
    Calls Tryz.prog 35 #[.pointer (some ⟨vb, 0, none⟩)] w fun e w' => e = .returned (.tuple #[]) ∧ Vol w' vb st.crash mb pv ∧ Turn [vb] w w' := by
  have c5 := h.blk.cell 5
  have f5 := h.blk.frozen 5
  simp at c5
  have hs := h.store 5 (.bool true) (st' := st.crash) rfl rfl h.wf.crash rfl
  have ht : Turn [vb] w (w.setCell ⟨vb, 5, none⟩ (.bool true)) := (Turn.refl _ w).setCell (.inl (by simp)) _
  have HS := Lib.hid hs
  clear hs h
  go_enter Tryz.func35, Tryz.ntmps35
  go_wp2
  go_end0
  exact ⟨rfl, HS.out, ht⟩
theorem limit_any (n : Int) {w : World} {vb : Nat} {st : VS} {mb : Nat} {pv : Value} (h : Vol w vb st mb pv) (hn : n ≤ 9223372036854775807) :
    Calls Tryz.prog 12 #[.pointer (some ⟨vb, 0, none⟩), .int .i64 n] w fun e w' => e = .returned (.tuple #[]) ∧ Vol w' vb (st.limit n) mb pv ∧ Turn [vb] w w' := by
  have c3 := h.blk.cell 3
  have c4 := h.blk.cell 4
  have f3 := h.blk.frozen 3
  have f4 := h.blk.frozen 4
  simp at c3 c4
  have hs : Vol ((w.setCell ⟨vb, 3, none⟩ (.bool true)).setCell ⟨vb, 4, none⟩ (.int .i64 (max n 0))) vb (st.limit n) mb pv := by
    have e0 : (((max n 0).toNat : Nat) : Int) = max n 0 := by omega
    have h1 := h.store 3 (.bool true) (st' := { st with lim := some (st.lim.getD 0) }) rfl rfl ⟨h.wf.pos, h.wf.len, h.wf.dur, h.wf.sect, h.wf.data, h.wf.room, fun l hl => by
      cases he : st.lim with
      | none => simp [he] at hl; omega
      | some x => simp [he] at hl; have := h.wf.lim x he; omega⟩ rfl
    refine h1.store 4 (.int .i64 (max n 0)) (st' := st.limit n) rfl rfl (h.wf.limit hn) ?_
    simp [VS.limit, e0]
  have ht : Turn [vb] w ((w.setCell ⟨vb, 3, none⟩ (.bool true)).setCell ⟨vb, 4, none⟩ (.int .i64 (max n 0))) := ((Turn.refl _ w).setCell (.inl (by simp)) _).setCell (.inl (by simp)) _
  have HS := Lib.hid hs
  clear hs h
  go_enter Tryz.func12, Tryz.ntmps12
  go_wp2
  go_end0
  exact ⟨rfl, HS.out, ht⟩
end Go.Proofs.YtfdnpchbbngpjaaGreat
