/- A device in memory; its small methods walked. -/
import Derived.Test.YtfdnpchbbngpjaaGreatVst
import Derived.Test.YtfdnpchbbngpjaaGreatRows
import Derived.Test.YtfdnpchbbngpjaaGreatVshf
import Derived.Outline
import Derived.Deep.QuietTactic
import Derived.BigQuiet
namespace Go.Proofs.YtfdnpchbbngpjaaGreat
open Go.RowKit Go.Maps

theorem ckey : Keyed Tryz.prog 3 := int_keyed Tryz.underlying3
/-- block vb is a device in the state st; its map is block mb, its pending writes are the slice pv -/
structure Vol (w : World) (vb : Nat) (st : VS) (mb : Nat) (pv : Value) : Prop where
  blk : Blk w vb 80 #[.int .i64 (st.dur.length : Int), .map (some mb), pv, .bool st.lim.isSome, .int .i64 ((st.lim.getD 0 : Nat) : Int), .bool st.down]
  map : w.ownsMap (H := Unit) Tryz.prog 3 (plainElem Tryz.prog 9) mb st.dur.length (MD st.dur)
  row : w.ownsRow 0 102 2 pv st.pend.length (pcells st.pend)
  wf : st.wf
def foot (vb mb : Nat) (pv : Value) : List Nat := vb :: mb :: pv.ownBlock.toList
/-- the device, its blocks being F -/
def VolF (w : World) (vb : Nat) (st : VS) (F : List Nat) : Prop := ∃ mb pv, Vol w vb st mb pv ∧ F = foot vb mb pv
/-- what an operation on the device of blocks F leaves -/
def Step (F : List Nat) (w w' : World) (vb : Nat) (st : VS) : Prop := ∃ F', VolF w' vb st F' ∧ Turn F w w' ∧ ∀ i, i ∈ F' → i ∈ F ∨ w.heap.size ≤ i

section
variable {w w' : World} {vb mb : Nat} {st : VS} {pv : Value} {F G : List Nat}
theorem Vol.mb_ne (h : Vol w vb st mb pv) : mb ≠ vb := map_blk_ne h.map h.blk
theorem Vol.pv_ne (h : Vol w vb st mb pv) : pv.ownBlock ≠ some vb := own_blk_ne h.row h.blk (by decide)
theorem Vol.pv_mb (h : Vol w vb st mb pv) : pv.ownBlock ≠ some mb := map_row_ne h.map h.row
theorem Vol.lt (h : Vol w vb st mb pv) : ∀ i, i ∈ foot vb mb pv → i < w.heap.size := by
  intro i hi
  unfold foot at hi
  rcases List.mem_cons.1 hi with rfl | hi
  · exact h.blk.lt
  · rcases List.mem_cons.1 hi with rfl | hi
    · exact h.map.lt
    · exact (h.row.lt i (by simpa using hi)).2
theorem Vol.turn (h : Vol w vb st mb pv) (ht : Turn G w w') (hn : ∀ i, i ∈ foot vb mb pv → i ∉ G) : Vol w' vb st mb pv :=
  ⟨h.blk.turn ht (hn _ (by simp [foot])), map_turn h.map ht (hn _ (by simp [foot])), row_turn h.row ht (fun g hg => hn g (by simp [foot, hg])), h.wf⟩
theorem VolF.lt (h : VolF w vb st F) : ∀ i, i ∈ F → i < w.heap.size := by
  obtain ⟨mb, pv, h, rfl⟩ := h; exact h.lt
theorem VolF.turn (h : VolF w vb st F) (ht : Turn G w w') (hn : ∀ i, i ∈ F → i ∉ G) : VolF w' vb st F := by
  obtain ⟨mb, pv, h, rfl⟩ := h; exact ⟨mb, pv, h.turn ht hn, rfl⟩
theorem VolF.wf (h : VolF w vb st F) : st.wf := by
  obtain ⟨mb, pv, h, rfl⟩ := h; exact h.wf
theorem Vol.below (h : Vol w vb st mb pv) (hb : Below w.heap.size w w') : Vol w' vb st mb pv := h.turn (G := []) (Turn.ofBelow hb (Nat.le_refl _)) (fun _ _ => by simp)
theorem VolF.below (h : VolF w vb st F) (hb : Below w.heap.size w w') : VolF w' vb st F := h.turn (G := []) (Turn.ofBelow hb (Nat.le_refl _)) (fun _ _ => by simp)
theorem VolF.drew (h : VolF w vb st F) : VolF w.drew vb st F := h.turn (G := []) ((Turn.refl [] w).drew) (fun _ _ => by simp)
theorem Vol.foot_vb : vb ∈ foot vb mb pv := by simp [foot]
/-- a number of the block is stored -/
theorem Vol.store (h : Vol w vb st mb pv) (i : Nat) (u : Value) {st' : VS} (hd : st'.dur = st.dur) (hp : st'.pend = st.pend) (hw : st'.wf)
    (hc : (#[.int .i64 (st.dur.length : Int), .map (some mb), pv, .bool st.lim.isSome, .int .i64 ((st.lim.getD 0 : Nat) : Int), .bool st.down] : Array Value).setIfInBounds i u = #[.int .i64 (st'.dur.length : Int), .map (some mb), pv, .bool st'.lim.isSome, .int .i64 ((st'.lim.getD 0 : Nat) : Int), .bool st'.down]) :
    Vol (w.setCell ⟨vb, i, none⟩ u) vb st' mb pv := by
  have t : Turn [vb] w (w.setCell ⟨vb, i, none⟩ u) := (Turn.refl _ w).setCell (.inl (by simp)) u
  refine ⟨?_, ?_, ?_, hw⟩
  · rw [← hc]; exact h.blk.set_ i u
  · rw [hd]; exact map_turn h.map t (by simp [h.mb_ne])
  · rw [hp]; exact row_turn h.row t (fun g hg => by
      have := h.pv_ne
      simp
      rintro rfl
      exact this hg)
end

set_option maxRecDepth 100000 in
theorem zero_any (w : World) : Calls Tryz.prog 78 #[] w fun e w' => e = .returned (.string zb) ∧ Below w.heap.size w w' := by
  have hz : (⟨(Lib.repeatL (⟨#[0]⟩ : ByteArray).data.toList 256).toArray⟩ : ByteArray) = zb := by
    have : Lib.repeatL ([0] : List UInt8) 256 = List.replicate 256 0 := by decide +kernel
    show (⟨(Lib.repeatL ([0] : List UInt8) 256).toArray⟩ : ByteArray) = zb
    rw [this]; rfl
  have HZ := Lib.hid hz
  clear hz
  go_enter Tryz.func78, Tryz.ntmps78
  go_wp2_with ((go_at_call 88; refine (Tryz.strings_Repeat (⟨#[0]⟩ : ByteArray) 256 _ (by decide) (by decide)).mono ?_; rintro e w' ⟨rfl, hb⟩))
  go_ret
  exact ⟨by rw [HZ.out]; rfl, hb⟩

set_option maxRecDepth 100000 in
theorem has_any (s : Int) {w : World} {vb : Nat} {st : VS} {mb : Nat} {pv : Value} (h : Vol w vb st mb pv) :
    Calls Tryz.prog 70 #[.pointer (some ⟨vb, 0, none⟩), .int .i64 s] w fun e w' => e = .returned (.bool (inR s st.dur.length)) ∧ w = w' := by
  have c0 := h.blk.cell 0
  clear h
  simp at c0
  unfold inR
  by_cases h0 : 0 ≤ s
  · have d0 : decide (0 ≤ s) = true := by simpa using h0
    go_enter Tryz.func70, Tryz.ntmps70
    go_wp2
    go_ret
    exact ⟨by simp [h0], rfl⟩
  · have d0 : decide (0 ≤ s) = false := by simpa using h0
    go_enter Tryz.func70, Tryz.ntmps70
    go_wp2
    go_ret
    exact ⟨by simp, rfl⟩

/-- 'fails' -/
theorem fails_any {w : World} {vb : Nat} {st : VS} {mb : Nat} {pv : Value} (h : Vol w vb st mb pv) :
    Calls Tryz.prog 73 #[.pointer (some ⟨vb, 0, none⟩)] w fun e w' => e = .returned (.bool st.tick.1) ∧ Vol w' vb st.tick.2 mb pv ∧ Turn [vb] w w' := by
  have c3 := h.blk.cell 3
  have c4 := h.blk.cell 4
  have c5 := h.blk.cell 5
  have f4 := h.blk.frozen 4
  have f5 := h.blk.frozen 5
  have hwt := h.wf.tick
  have hl := h.wf.lim
  simp at c3 c4 c5
  obtain ⟨ds, ps, lim, down⟩ := st
  cases lim with
  | none =>
    simp at c3
    go_enter Tryz.func73, Tryz.ntmps73
    go_wp2
    go_ret
    exact ⟨rfl, h, Turn.refl _ _⟩
  | some n =>
    have hl := hl n rfl
    simp at c3 c4
    cases n with
    | zero =>
      simp at c4
      have hs := h.store 5 (.bool true) (st' := ⟨ds, ps, some 0, true⟩) rfl rfl hwt rfl
      have ht : Turn [vb] w (w.setCell ⟨vb, 5, none⟩ (.bool true)) := (Turn.refl _ w).setCell (.inl (by simp)) _
      have HS := Lib.hid hs
      clear hs h
      go_enter Tryz.func73, Tryz.ntmps73
      go_wp2
      go_ret
      exact ⟨rfl, HS.out, ht⟩
    | succ k =>
      have hs := h.store 4 (.int .i64 (k : Int)) (st' := ⟨ds, ps, some k, down⟩) rfl rfl hwt rfl
      have ht : Turn [vb] w (w.setCell ⟨vb, 4, none⟩ (.int .i64 (k : Int))) := (Turn.refl _ w).setCell (.inl (by simp)) _
      have HS := Lib.hid hs
      clear hs h
      go_enter Tryz.func73, Tryz.ntmps73
      go_wp2
      go_ret
      exact ⟨rfl, HS.out, ht⟩
end Go.Proofs.YtfdnpchbbngpjaaGreat
