/- A journal in memory; its small methods. -/
import Derived.Test.YtfdnpchbbngpjaaGreatJfm
import Derived.BigQuiet
namespace Go.Proofs.YtfdnpchbbngpjaaGreat
open Go.RowKit Go.Maps

/-- block jb is the journal: on the device vb, with the table tb, its list S, its records the slice rv -/
structure Jr (w : World) (jb vb tb : Nat) (S : JS) (br : Bool) (rv : Value) (hen : Nat) : Prop where
  blk : Blk w jb 88 #[.pointer (some ⟨vb, 0, none⟩), .pointer (some ⟨tb, 0, none⟩), .int .i64 (S.h : Int), .int .i64 (S.first : Int), .int .i64 (S.beg : Int), .int .i64 (hen : Int), rv, .int .i64 (S.comm : Int), .int .i64 (S.en : Int), .int .i64 (S.next : Int), .bool br]
  row : w.ownsRow 0 95 2 rv S.recs.length (pcells S.recs)
def jfoot (jb : Nat) (rv : Value) : List Nat := jb :: rv.ownBlock.toList
theorem row_shape {w : World} {base e size n : Nat} {v : Value} {xs : List Value} (h : w.ownsRow base e size v n xs) : ∃ ao cap, v = .slice ao n cap := by
  rcases h.2 with ⟨h1, h2⟩ | ⟨g, cap, cur, h1, _⟩
  · exact ⟨none, 0, by rw [h1, h2]⟩
  · exact ⟨_, _, h1⟩
section
variable {w w' : World} {jb vb tb : Nat} {S : JS} {br : Bool} {rv : Value} {hen : Nat}
theorem Jr.turn (h : Jr w jb vb tb S br rv hen) {F : List Nat} (ht : Turn F w w') (hn : ∀ i, i ∈ jfoot jb rv → i ∉ F) : Jr w' jb vb tb S br rv hen :=
  ⟨h.blk.turn ht (hn _ (by simp [jfoot])), row_turn h.row ht (fun g hg => hn g (by simp [jfoot, hg]))⟩
theorem Jr.below (h : Jr w jb vb tb S br rv hen) (hb : Below w.heap.size w w') : Jr w' jb vb tb S br rv hen := h.turn (F := []) (Turn.ofBelow hb (Nat.le_refl _)) (fun _ _ => by simp)
theorem Jr.drewN (h : Jr w jb vb tb S br rv hen) (n : Nat) : Jr (w.drewN n) jb vb tb S br rv hen := h.below (below_drewN (Below.refl _ _))
theorem Jr.lt (h : Jr w jb vb tb S br rv hen) : ∀ i, i ∈ jfoot jb rv → i < w.heap.size := by
  intro i hi
  rcases List.mem_cons.1 hi with rfl | hi
  · exact h.blk.lt
  · exact (h.row.lt i (by simpa using hi)).2

theorem state_nil (w : World) : Calls Tryz.prog 46 #[.pointer none] w fun e w' => e = .returned (.int .i64 1) ∧ w = w' := by
  go_enter Tryz.func46, Tryz.ntmps46
  go_wp2
  go_ret
  exact ⟨rfl, rfl⟩
theorem state_any (h : Jr w jb vb tb S br rv hen) : Calls Tryz.prog 46 #[.pointer (some ⟨jb, 0, none⟩)] w fun e w' => e = .returned (.int .i64 (if br then 38 else 0)) ∧ w = w' := by
  have c10 := h.blk.cell 10
  simp at c10
  clear h
  cases br <;> (go_enter Tryz.func46, Tryz.ntmps46; go_wp2; go_ret; exact ⟨rfl, rfl⟩)
theorem first_nil (w : World) : Calls Tryz.prog 29 #[.pointer none] w fun e w' => e = .returned (.int .i64 0) ∧ w = w' := by
  go_enter Tryz.func29, Tryz.ntmps29
  go_wp2
  go_ret
  exact ⟨rfl, rfl⟩
theorem first_any (h : Jr w jb vb tb S br rv hen) : Calls Tryz.prog 29 #[.pointer (some ⟨jb, 0, none⟩)] w fun e w' => e = .returned (.int .i64 (S.first : Int)) ∧ w = w' := by
  have c3 := h.blk.cell 3
  simp at c3
  clear h
  go_enter Tryz.func29, Tryz.ntmps29
  go_wp2
  go_ret
  exact ⟨rfl, rfl⟩
theorem last_nil (w : World) : Calls Tryz.prog 28 #[.pointer none] w fun e w' => e = .returned (.int .i64 0) ∧ w = w' := by
  go_enter Tryz.func28, Tryz.ntmps28
  go_wp2
  go_ret
  exact ⟨rfl, rfl⟩
theorem last_any (h : Jr w jb vb tb S br rv hen) (hb1 : S.first ≤ 281474976710656) (hb2 : S.recs.length ≤ 281474976710656) : Calls Tryz.prog 28 #[.pointer (some ⟨jb, 0, none⟩)] w fun e w' => e = .returned (.int .i64 S.last) ∧ ∃ n, w' = w.drewN n := by
  obtain ⟨ao, cap, rfl⟩ := row_shape h.row
  have c3 := h.blk.cell 3
  have c6 := h.blk.cell 6
  simp at c3 c6
  clear h
  go_enter Tryz.func28, Tryz.ntmps28
  go_wp2_with fail
  go_quiet (fail)
  go_wp2_with fail
  go_ret
  exact ⟨rfl, _, rfl⟩
theorem durable_nil (w : World) : Calls Tryz.prog 41 #[.pointer none] w fun e w' => e = .returned (.int .i64 0) ∧ w = w' := by
  go_enter Tryz.func41, Tryz.ntmps41
  go_wp2
  go_ret
  exact ⟨rfl, rfl⟩
theorem durable_any (h : Jr w jb vb tb S br rv hen) (hb1 : S.first ≤ 281474976710656) (hb2 : S.comm ≤ 281474976710656) : Calls Tryz.prog 41 #[.pointer (some ⟨jb, 0, none⟩)] w fun e w' => e = .returned (.int .i64 S.durable) ∧ ∃ n, w' = w.drewN n := by
  have c3 := h.blk.cell 3
  have c7 := h.blk.cell 7
  simp at c3 c7
  clear h
  go_enter Tryz.func41, Tryz.ntmps41
  go_wp2_with fail
  go_quiet (fail)
  go_wp2_with fail
  go_ret
  exact ⟨rfl, _, rfl⟩
theorem free_nil (w : World) : Calls Tryz.prog 26 #[.pointer none] w fun e w' => e = .returned (.int .i64 (-1)) ∧ w = w' := by
  go_enter Tryz.func26, Tryz.ntmps26
  go_wp2
  go_ret
  exact ⟨rfl, rfl⟩
theorem free_any (h : Jr w jb vb tb S br rv hen) {st : VS} {F : List Nat} (hV : VolF w vb st F) {m : Nat} (hm : st.dur.length = m + 2) (hb1 : S.beg ≤ 1125899906842624) (hb2 : S.next ≤ 1125899906842624) :
    Calls Tryz.prog 26 #[.pointer (some ⟨jb, 0, none⟩)] w fun e w' => e = .returned (.int .i64 (S.free (256 * m))) ∧ ∃ n, w' = w.drewN n := by
  have c0 := h.blk.cell 0
  have c4 := h.blk.cell 4
  have c9 := h.blk.cell 9
  simp at c0 c4 c9
  have hl := hV.wf.len
  have HV := Lib.hid hV
  have HM := Lib.hid hm
  have hm2 : m ≤ 65536 := by omega
  clear h hV
  go_enter Tryz.func26, Tryz.ntmps26
  go_wp2_with fail
  go_quiet ((go_at_call 66; refine (area_any (HV.out.below (below_drewN (Below.refl _ _))) HM.out).mono ?_; rintro e w' ⟨rfl, rfl⟩; exact ⟨rfl, _, rfl⟩))
  go_wp2_with fail
  go_ret
  exact ⟨by unfold JS.free; go_num, _, rfl⟩
end
end Go.Proofs.YtfdnpchbbngpjaaGreat
