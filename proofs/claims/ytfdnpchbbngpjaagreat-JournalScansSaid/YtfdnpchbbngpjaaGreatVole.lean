/- slices.Backward over the pending writes: what its iterator promises. -/
import Derived.Test.YtfdnpchbbngpjaaGreatVold
import Derived.RangeFuncNested
import Derived.RangeFuncBound
import Derived.RangeFuncCalls
import Derived.RangeFuncLeaves
import Derived.Shelf.Abstract
import Derived.Shelf.RegionOpen
import Derived.OwnWalkIn
import Derived.TacticsInMore
import Derived.LoopNIn
import Derived.LoopIn
namespace Go.Proofs.YtfdnpchbbngpjaaGreat
open Go.RowKit Go.Maps Go.Shelf
attribute [local go_sem] Oper.semAt_some

abbrev WI := Int × (Nat × ByteArray)
def encW (x : WI) : Array Value := #[.int .i64 x.1, .agg #[.int .i64 (x.2.1 : Int), .string x.2.2]]
/-- the writes backwards, with their places -/
def bw : List (Nat × ByteArray) → List WI
  | ps => (ps.zipIdx.reverse).map fun p => ((p.2 : Int), p.1)
theorem bw_len (ps : List (Nat × ByteArray)) : (bw ps).length = ps.length := by simp [bw]
theorem bw_at {ps : List (Nat × ByteArray)} {j : Nat} (hj : j < ps.length) : (bw ps)[ps.length - (j + 1)]? = some ((j : Int), ps[j]) := by
  unfold bw
  rw [List.getElem?_map, List.getElem?_reverse (by simp; omega)]
  have : ps.zipIdx.length - 1 - (ps.length - (j + 1)) = j := by simp; omega
  rw [this, List.getElem?_eq_getElem (by simpa using hj)]
  simp
theorem bw_step {ps : List (Nat × ByteArray)} {j : Nat} (hj : j < ps.length) : (bw ps).take (ps.length - j) = (bw ps).take (ps.length - (j + 1)) ++ [((j : Int), ps[j])] := by
  rw [show ps.length - j = (ps.length - (j + 1)) + 1 from by omega, List.take_add_one, bw_at hj]
  rfl
theorem bw_snd (ps : List (Nat × ByteArray)) : (bw ps).map (·.2) = ps.reverse := by
  unfold bw
  rw [List.map_map, show ((fun x : WI => x.2) ∘ fun p : (Nat × ByteArray) × Nat => ((p.2 : Int), p.1)) = (fun p => p.1) from rfl, List.map_reverse, List.zipIdx_map_fst]

/-- the cells of the pending writes, block by block, in a world -/
def PRow (n₀ : Nat) (W : World) (pv : Value) (ps : List (Nat × ByteArray)) : Prop :=
  (pv = .slice none 0 0 ∧ ps = []) ∨ ∃ g cap, pv = .slice (some ⟨g, 0, none⟩) ps.length cap ∧ g < n₀ ∧ ∀ (j : Nat) (h : j < ps.length), W.cell? ⟨g, j * 2, none⟩ = some (.int .i64 ((ps[j]).1 : Int)) ∧ W.cell? ⟨g, j * 2 + 1, none⟩ = some (.string (ps[j]).2)
theorem PRow.below {n₀ : Nat} {A B : World} {pv : Value} {ps : List (Nat × ByteArray)} (h : Below n₀ A B) : PRow n₀ A pv ps → PRow n₀ B pv ps
  | .inl e => .inl e
  | .inr ⟨g, cap, e, hg, hc⟩ => .inr ⟨g, cap, e, hg, fun j hj => ⟨(h.cell (p := ⟨g, j * 2, none⟩) hg).trans (hc j hj).1, (h.cell (p := ⟨g, j * 2 + 1, none⟩) hg).trans (hc j hj).2⟩⟩
theorem Vol.prow {w : World} {vb : Nat} {st : VS} {mb : Nat} {pv : Value} (h : Vol w vb st mb pv) : PRow w.heap.size w pv st.pend := by
  have hr := h.row
  rcases hr.2 with ⟨h1, h2⟩ | ⟨g, cap, cur, h1, _, hh, _⟩
  · exact .inl ⟨h1, List.eq_nil_of_length_eq_zero h2⟩
  · refine .inr ⟨g, cap, h1, (Array.getElem?_eq_some_iff.1 hh).1, fun j hj => ?_⟩
    subst h1
    have hp := pcells_at (List.getElem?_eq_getElem hj)
    have e1 := hr.cellAt (2 * j) (by omega)
    have e2 := hr.cellAt (2 * j + 1) (by omega)
    rw [hp.1] at e1
    rw [hp.2] at e2
    rw [Nat.mul_comm j 2]
    exact ⟨e1, e2⟩

set_option maxRecDepth 100000 in
set_option maxHeartbeats 2000000 in
theorem backward1_in (F : Fence) (n : Nat) (h7 : F.fn 84) (hro : F.round = none) (hn : 1 ≤ n) (l Bs n₀ g cap : Nat) (ps : List (Nat × ByteArray)) (hreach : ps.length ≤ 4096) (hg : g < n₀) (J Jx : List WI → World → Prop)
    (hY : ∀ pre x W, J pre W → pre.length < ps.length → YieldAt F (n - 1) Tryz.prog l (encW x) W fun e W' =>
      (e = .returned (.bool true) ∧ J (pre ++ [x]) W' ∧ Below n₀ W W') ∨ (e = .returned (.bool false) ∧ Jx (pre ++ [x]) W'))
    (W : World) (hBs0 : Bs < n₀) (hBs : W.cell? ⟨Bs, 0, none⟩ = some (.slice (some ⟨g, 0, none⟩) ps.length cap)) (hc : ∀ (j : Nat) (h : j < ps.length), W.cell? ⟨g, j * 2, none⟩ = some (.int .i64 ((ps[j]).1 : Int)) ∧ W.cell? ⟨g, j * 2 + 1, none⟩ = some (.string (ps[j]).2)) (h0 : J [] W) :
    CallsIn F n Tryz.prog 84 #[.func (.yield l) #[] #[], .pointer (some ⟨Bs, 0, none⟩)] W fun e W' => (∃ v, e = .returned v) ∧
      ((∃ ys, ys = bw ps ∧ J ys W') ∨ (∃ pre, pre <+: bw ps ∧ Jx pre W')) := by
  have HC := Lib.hid hc
  clear hc
  refine callsIn_of_wp Tryz.func84 rfl h7 ?_ hro
  simp only [Tryz.ntmps84, List.size_toArray, List.length_cons, List.length_nil, Nat.reduceAdd, Nat.reduceSub, Array.replicate_succ, Array.replicate_zero, List.push_toArray, List.append_toArray, List.nil_append, List.cons_append]
  gi_wp2
  gi_loopw [3] (fun i wr => ∃ m : Nat, m ≤ ps.length ∧ i = .int .i64 ((m : Int) - 1) ∧ J ((bw ps).take (ps.length - m)) wr ∧ Below n₀ W wr)
    (fun i _ => (intOf i + 1).toNat)
  case atStart => exact ⟨ps.length, Nat.le_refl _, rfl, by simpa using h0, Below.refl _ _⟩
  case round =>
    obtain ⟨m, hm, rfl, hJs, hnx⟩ := hrel
    have hb := (hnx.cell (p := ⟨Bs, 0, none⟩) hBs0).trans hBs
    cases m with
    | zero =>
      gi_wp2
      go_end0
      exact ⟨⟨_, rfl⟩, .inl ⟨_, rfl, by simpa [List.take_of_length_le (Nat.le_of_eq (bw_len ps))] using hJs⟩⟩
    | succ j =>
      have hc1 := (hnx.cell (p := ⟨g, j * 2, none⟩) hg).trans (HC.out j (by omega)).1
      have hc2 := (hnx.cell (p := ⟨g, j * 2 + 1, none⟩) hg).trans (HC.out j (by omega)).2
      obtain ⟨fn, tmps, assign, body, hy, hR⟩ := hY _ ((j : Int), ps[j]) wr hJs (by rw [List.length_take, bw_len]; omega)
      simp only [encW] at hy
      have hst := Lib.hid (bw_step (show j < ps.length by omega))
      generalize ps[j] = pj at *
      gi_wp2
      refine hR.mono ?_
      rintro e W3 (⟨rfl, hJ3, hk3⟩ | ⟨rfl, hJx3⟩)
      · gi_wp2
        go_roundw
        case rel => exact ⟨j, by omega, by simp, by rw [hst.out]; exact hJ3, hnx.trans hk3⟩
        case measure => simp [intOf]
      · gi_wp2
        refine bodyPost_ret (results_none rfl _ _ _) rfl ?_
        exact ⟨⟨_, rfl⟩, .inr ⟨_, by rw [← hst.out]; exact List.take_prefix _ _, hJx3⟩⟩

set_option maxRecDepth 100000 in
set_option maxHeartbeats 1000000 in
/-- at no pending writes: no round -/
theorem backward1_nil_in (F : Fence) (n : Nat) (h7 : F.fn 84) (hro : F.round = none) (l Bs : Nat) (J : List WI → World → Prop) (W : World) (hBs : W.cell? ⟨Bs, 0, none⟩ = some (.slice none 0 0)) (h0 : J [] W) :
    CallsIn F n Tryz.prog 84 #[.func (.yield l) #[] #[], .pointer (some ⟨Bs, 0, none⟩)] W fun e W' => (∃ v, e = .returned v) ∧ J [] W' := by
  refine callsIn_of_wp Tryz.func84 rfl h7 ?_ hro
  simp only [Tryz.ntmps84, List.size_toArray, List.length_cons, List.length_nil, Nat.reduceAdd, Nat.reduceSub, Array.replicate_succ, Array.replicate_zero, List.push_toArray, List.append_toArray, List.nil_append, List.cons_append]
  gi_wp2
  gi_loopw [3] (fun i wr => i = .int .i64 (-1) ∧ J [] wr) (fun _ _ => 0)
  case atStart => exact ⟨rfl, h0⟩
  case round =>
    obtain ⟨rfl, hJs⟩ := hrel
    gi_wp2
    go_end0
    exact ⟨⟨_, rfl⟩, hJs⟩

set_option maxHeartbeats 1000000 in
theorem backward_in (F : Fence) (n : Nat) (h5 : F.fn 71) (hro : F.round = none) (a : Option Addr) (len cap : Nat) (w : World) :
    CallsIn F n Tryz.prog 71 #[.slice a len cap] w fun e w' => e = .returned (.func (.func 84) #[] #[.pointer (some ⟨w.heap.size, 0, none⟩)]) ∧ w' = w.alloc (.cells #[.slice a len cap] 78) := by
  refine callsIn_of_wp Tryz.func71 rfl h5 ?_ hro
  simp only [Tryz.ntmps71, List.size_toArray, List.length_cons, List.length_nil, Nat.reduceAdd, Nat.reduceSub, Array.replicate_succ, Array.replicate_zero, List.push_toArray, List.append_toArray, List.nil_append, List.cons_append]
  gi_wp2
  go_ret
  exact ⟨rfl, rfl⟩

theorem backward_stops (F : Fence) (n : Nat) (h7 : F.fn 84) (hro : F.round = none) (hn : 1 ≤ n) (Bs n₀ : Nat) (pv : Value) (ps : List (Nat × ByteArray)) (hreach : ps.length ≤ 4096) (w : World) (hBs : Bs < n₀) (hn₀ : n₀ ≤ w.heap.size)
    (hc : w.cell? ⟨Bs, 0, none⟩ = some pv) (hI : PRow n₀ w pv ps) :
    SeqStopsK F n Tryz.prog 84 #[.pointer (some ⟨Bs, 0, none⟩)] encW (Below n₀) (fun ys => ys = bw ps) (fun pre => pre <+: bw ps) ps.length w := fun l J Jx W hW _ _ hY h0 => by
  have hc' := (hW.cell (p := ⟨Bs, 0, none⟩) (Nat.lt_of_lt_of_le hBs hn₀)).trans hc
  rcases hI.below (hW.mono hn₀) with ⟨rfl, rfl⟩ | ⟨g, cap, rfl, hg, hcs⟩
  · exact (backward1_nil_in F n h7 hro l Bs J W hc' h0).mono fun e W' ⟨he, hj⟩ => ⟨he, .inl ⟨_, rfl, hj⟩⟩
  · exact backward1_in F n h7 hro hn l Bs n₀ g cap ps hreach hg J Jx hY W hBs hc' hcs h0
end Go.Proofs.YtfdnpchbbngpjaaGreat
