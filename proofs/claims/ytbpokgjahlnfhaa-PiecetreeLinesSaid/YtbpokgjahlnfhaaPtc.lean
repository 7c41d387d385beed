/- Chunks, Slice, Equal. -/
import Derived.Test.YtbpokgjahlnfhaaPta
namespace Go.Proofs.Ytbpokgjahlnfhaa
open Go.RowKit Go.Shelf

/-- what Chunks returns -/
def Tr.chunks (t : Tr) (a b : Int) : Nat × List (List UInt8) := if wrongNo t.size a b = 2 then (2, []) else (0, t.vis a b)
theorem Tr.chunks_len (t : Tr) (a b : Int) : (t.chunks a b).2.length ≤ t.count := by
  unfold Tr.chunks
  split
  · simp
  · exact Tr.vis_len t a b
def ChPost (c : Nat × List (List UInt8)) (w : World) (e : Ending) (w' : World) : Prop := ∃ v, e = .returned (.tuple #[v, .int .i64 (c.1 : Int)]) ∧ w'.ownsRow w.heap.size 9 1 v c.2.length (c.2.map estr) ∧ Below w.heap.size w w'
set_option maxHeartbeats 1000000 in
theorem chunks_any (a b : Int) {w : World} {tb : Nat} {t : Tr} (h : Tree w tb t) (ho : t.okay) : Calls Try.prog 29 #[.pointer (some ⟨tb, 0, none⟩), .int .i64 a, .int .i64 b] w (ChPost (t.chunks a b) w) := by
  unfold Tr.chunks
  rcases wrongNo_or t.size a b with h1 | h1
  · rw [if_pos h1]
    have HW := Lib.hid h1
    clear h1
    go_enter Try.func29, Try.ntmps29
    go_wp2_with (go_at_call 37; refine (wrong_any a b h).mono ?_; rw [HW.out]; rintro e w' ⟨rfl, rfl⟩)
    go_ret2
    exact ⟨_, rfl, World.ownsRow_nil _ _ _ _, Below.refl _ _⟩
  · rw [if_neg (by omega)]
    have hw' : ¬ (a < 0 ∨ b < a ∨ (t.size : Int) < b) := fun hh => by unfold wrongNo at h1; rw [if_pos hh] at h1; cases h1
    have HW := Lib.hid h1
    have hT := h
    obtain ⟨rv, g1, g2⟩ := h
    have c0 := g1.cell 0
    simp at c0
    clear h1 g1
    obtain ⟨p, rfl⟩ := g2.ptr
    have hs := ho.2
    have hc := Tr.count_le ho.1
    have hC := Lib.hid (collect_parts a b g2 (by omega) (by omega) ⟨by omega, by omega⟩ ⟨by omega, by omega⟩)
    clear hs hc ho hw'
    go_enter Try.func29, Try.ntmps29
    go_wp2_with (first
      | (go_at_call 37; refine (wrong_any a b hT).mono ?_; rw [HW.out]; rintro e w' ⟨rfl, rfl⟩)
      | (go_at_call 44; refine (parts_any _ _ _ _ ⟨_, rfl⟩).mono ?_; rintro e w' ⟨rfl, rfl⟩)
      | (go_at_call 43; refine hC.out.mono ?_; rintro e w2 ⟨v, rfl, k1, k2, k3⟩; obtain ⟨ao, cap, rfl⟩ := row_slice k1))
    go_ret2
    exact ⟨_, rfl, k1, k3⟩

/-- what Slice returns -/
def Tr.slice (t : Tr) (a b : Int) : Nat × ByteArray := ((t.chunks a b).1, ⟨(t.chunks a b).2.flatten.toArray⟩)
set_option maxHeartbeats 1000000 in
theorem tslice_any (a b : Int) {w : World} {tb : Nat} {t : Tr} (h : Tree w tb t) (ho : t.okay) : Calls Try.prog 28 #[.pointer (some ⟨tb, 0, none⟩), .int .i64 a, .int .i64 b] w fun e w' => e = .returned (.tuple #[.string (t.slice a b).2, .int .i64 ((t.slice a b).1 : Int)]) ∧ Below w.heap.size w w' := by
  have hl := Tr.chunks_len t a b
  have hc := Tr.count_le ho.1
  have hs := ho.2
  have hf : (t.chunks a b).2.flatten.length ≤ t.size := by
    unfold Tr.chunks
    split
    · simp
    · exact seg_nil t a b
  have HL := Lib.hid (show (t.chunks a b).2.length ≤ 300000 by omega)
  have HF := Lib.hid (show (t.chunks a b).2.flatten.length ≤ 140737488355328 by omega)
  clear hl hc hs hf
  go_enter Try.func28, Try.ntmps28
  go_wp2_with (first
    | (go_at_call 29; refine (chunks_any a b h ho).mono ?_; rintro e w1 ⟨v, rfl, k1, k2⟩; obtain ⟨ao, cap, rfl⟩ := row_slice k1)
    | (go_at_call 42; refine (join_row _ k1 HL.out HF.out).mono ?_; rintro e w3 ⟨rfl, hb3⟩))
  trace_state
  go_ret2
  exact ⟨rfl, k2.trans (hb3.mono k2.size)⟩
/-- a node is the root of one tree only -/
theorem Nd.one {t u : Tr} {w : World} {v : Value} (h : Nd t w v) (k : Nd u w v) : t = u := by
  induction t generalizing u v with
  | nil =>
    obtain rfl := h.nil_ptr
    cases u with
    | nil => rfl
    | node _ _ _ => obtain ⟨b, _, _, _, e, _⟩ := k; cases e
  | node l p r ihl ihr =>
    obtain ⟨b, lv, rv, s, rfl, rfl, hb, hl, hr⟩ := h
    cases u with
    | nil => exact absurd k.nil_ptr (by simp)
    | node l' p' r' =>
      obtain ⟨b', lv', rv', s', e, rfl, hb', hl', hr'⟩ := k
      cases e
      unfold Blk at hb hb'
      rw [hb] at hb'
      injection hb' with hb'
      injection hb' with hb' _
      have e0 := congrArg (·[0]?) hb'
      have e1 := congrArg (·[1]?) hb'
      have e2 := congrArg (·[2]?) hb'
      simp at e0 e1 e2
      subst e0 e1 e2
      rw [ihl hl hl', ihr hr hr']
end Go.Proofs.Ytbpokgjahlnfhaa
