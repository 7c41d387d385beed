/- A device: Pending. -/
import Derived.Test.YtfhcecfddejcdaaVolj
namespace Go.Proofs.Ytfhcecfddejcdaa
open Go.RowKit Go.Maps

theorem vint_info : (Try.prog.info? 3).map (fun i => (i.zero, i.size, i.bytes)) = some (some (.int .i64 0), 1, 8) := by kernel_rfl
def sects (ps : List (Nat × ByteArray)) : List Int := ps.map fun p => (p.1 : Int)
theorem sects_step {ps : List (Nat × ByteArray)} {k : Nat} {p : Nat × ByteArray} (h : ps[k]? = some p) : sects (ps.take (k + 1)) = sects (ps.take k) ++ [(p.1 : Int)] := by
  unfold sects
  rw [List.take_add_one, h, List.map_append]
  rfl
def PendPost (ps : List (Nat × ByteArray)) (w : World) (e : Ending) (w' : World) : Prop :=
  ∃ v, e = .returned v ∧ w'.ownsRow w.heap.size 3 1 v (sects ps).length ((sects ps).map (Value.int .i64)) ∧ Below w.heap.size w w'
set_option maxRecDepth 100000 in
set_option maxHeartbeats 1000000 in
theorem pending_any {w : World} {vb : Nat} {st : VS} {mb : Nat} {pv : Value} (h : Vol w vb st mb pv) :
    Calls Try.prog 17 #[.pointer (some ⟨vb, 0, none⟩)] w (PendPost st.pend w) := by
  obtain ⟨i0, hi, hz0, hz1, hz2⟩ := info_parts vint_info
  have c2 := h.blk.cell 2
  simp at c2
  obtain ⟨ao, cap0, hpv⟩ : ∃ ao cap, pv = .slice ao st.pend.length cap := by
    rcases h.row.2 with ⟨h1, h2⟩ | ⟨g, cap, cur, h1, _⟩
    · exact ⟨none, 0, by rw [h1, h2]⟩
    · exact ⟨_, _, h1⟩
  subst hpv
  have hroom := h.wf.room
  go_enter Try.func17, Try.ntmps17
  go_wp2
  clear c2
  go_loopw [3, 13] (fun v i wr => ∃ k : Nat, k ≤ st.pend.length ∧ i = .int .i64 k ∧ wr.ownsRow w.heap.size 3 1 v (sects (st.pend.take k)).length ((sects (st.pend.take k)).map (Value.int .i64)) ∧ Below w.heap.size w wr) (fun _ i _ => st.pend.length - (intOf i).toNat)
  case atStart => exact ⟨0, Nat.zero_le _, rfl, World.ownsRow_nil _ _ _ _, Below.refl _ _⟩
  case round =>
    obtain ⟨k, hk, rfl, hown, hbel⟩ := hrel
    by_cases hlt : k < st.pend.length
    · obtain ⟨s, d, hx⟩ : ∃ s d, st.pend[k]? = some (s, d) := ⟨_, _, List.getElem?_eq_getElem hlt⟩
      have hxx := (List.getElem?_eq_some_iff.1 hx).2
      have hp : PRow w.heap.size wr (.slice ao st.pend.length cap0) st.pend := h.prow.below hbel
      rcases hp with ⟨e, _⟩ | ⟨g, cap, e, hg, hc⟩
      · injection e with e1 e2 e3
        omega
      · injection e with e1 e2 e3
        subst e1
        have hc' := hc k hlt
        rw [hxx] at hc'
        obtain ⟨hc1, hc2⟩ := hc'
        have HX := Lib.hid hx
        have hsz := hbel.size
        have hln : (sects (st.pend.take k)).length ≤ 4096 := by simp [sects]; omega
        clear hx hxx hc e2 e3 h
        go_wp2_with ((at_builtin; refine wpList_append_own _ rfl _ _ 31 rfl w.heap.size 3 i0 (.int .i64 0) 1 8 Try.underlying31 hi hz0 hz1 hz2 rfl (by decide) _ _ _ rfl ((hown.alloc _).alloc _) ⟨wr.heap.size + 1, 0, none⟩ 1 1 [.int .i64 (s : Int)] rfl rfl ?c1 ?c2 ?c3 ?c4 ?c5 ?_))
        case c2 => rfl
        case c3 => unfold maxLen; omega
        case c4 => omega
        case c5 => omega
        intro v' w1 hown' hgrow _
        have R := rel_append (w := wr.alloc _) (by simp; omega) (hown.alloc _) (hbel.alloc hsz _) hown' hgrow
        clear hown' hgrow hown hbel hi hz0 hz1 hz2
        go_wp2
        go_roundw
        case rel => exact ⟨k + 1, by omega, by go_num, by rw [sects_step HX.out, List.length_append, List.map_append]; exact R.1, R.2⟩
        case measure => simp [intOf]; omega
    · obtain rfl : k = st.pend.length := by omega
      clear hi hz0 hz1 hz2
      rw [List.take_length] at hown
      go_wp2
      go_ret
      exact ⟨_, rfl, hown, hbel⟩
end Go.Proofs.Ytfhcecfddejcdaa
