/- A device: Barrier. -/
import Derived.Test.YtfdnpchbbngpjaaGreatVolg
namespace Go.Proofs.YtfdnpchbbngpjaaGreat
open Go.RowKit Go.Maps

theorem Vol.cleared {w : World} {vb : Nat} {st : VS} {mb : Nat} {pv : Value} (h : Vol w vb st mb pv) : Vol (w.setCell ⟨vb, 2, none⟩ (.slice none 0 0)) vb { st with pend := [] } mb (.slice none 0 0) :=
  ⟨h.blk.set_ 2 _, h.map.setCell h.mb_ne _, World.ownsRow_nil _ _ _ _, h.wf.settled rfl h.wf.dur _ h.wf.lim _⟩
theorem foot_clear {vb mb : Nat} {pv : Value} : ∀ i, i ∈ foot vb mb (.slice none 0 0) → i ∈ foot vb mb pv := by
  intro i hi
  simp [foot, Value.ownBlock] at hi ⊢
  rcases hi with rfl | rfl
  · exact .inl rfl
  · exact .inr (.inl rfl)
theorem flush_step {ps : List (Nat × ByteArray)} {k : Nat} {p : Nat × ByteArray} (h : ps[k]? = some p) (ds : List ByteArray) : flush (ps.take (k + 1)) ds = (flush (ps.take k) ds).set p.1 p.2 := by
  unfold flush
  rw [List.take_add_one, h, List.foldl_append]
  rfl

set_option maxRecDepth 100000 in
set_option maxHeartbeats 1000000 in
theorem barrier_down {w : World} {vb : Nat} {st : VS} {mb : Nat} {pv : Value} (h : Vol w vb st mb pv) (hd : st.down = true) :
    Calls Tryz.prog 76 #[.pointer (some ⟨vb, 0, none⟩)] w fun e w' => e = .returned (.int .i64 36) ∧ w = w' := by
  have c5 := h.blk.cell 5
  simp [hd] at c5
  clear h hd
  go_enter Tryz.func76, Tryz.ntmps76
  go_wp2
  go_ret
  exact ⟨rfl, rfl⟩

set_option maxRecDepth 100000 in
set_option maxHeartbeats 1000000 in
theorem barrier_fails {w : World} {vb : Nat} {st : VS} {mb : Nat} {pv : Value} (h : Vol w vb st mb pv) (hd : st.down = false) (ht : st.tick.1 = true) :
    Calls Tryz.prog 76 #[.pointer (some ⟨vb, 0, none⟩)] w fun e w' => e = .returned (.int .i64 36) ∧ Vol w' vb st.tick.2 mb pv ∧ Turn [vb] w w' := by
  have c5 := h.blk.cell 5
  simp [hd] at c5
  have HT := Lib.hid ht
  clear ht hd
  go_enter Tryz.func76, Tryz.ntmps76
  go_wp2_with ((go_at_call 73; refine (fails_any h).mono ?_; rw [HT.out]; rintro e w1 ⟨rfl, hv, ht⟩))
  go_ret
  exact ⟨rfl, hv, ht⟩

/-- the state of a Barrier when k writes are done -/
def VS.during (st : VS) (k : Nat) : VS := ⟨flush (st.pend.take k) st.dur, st.pend, st.tick.2.lim, st.tick.2.down⟩

def BarPost (F : List Nat) (w : World) (vb : Nat) (st : VS) (e : Ending) (w' : World) : Prop := e = .returned (.int .i64 0) ∧ Step F w w' vb st
set_option maxRecDepth 100000 in
set_option maxHeartbeats 2000000 in
theorem barrier_ok {w : World} {vb : Nat} {st : VS} {mb : Nat} {pv : Value} (h : Vol w vb st mb pv) (hd : st.down = false) (ht : st.tick.1 = false) :
    Calls Tryz.prog 76 #[.pointer (some ⟨vb, 0, none⟩)] w (BarPost (foot vb mb pv) w vb { st.tick.2 with dur := flush st.pend st.dur, pend := [] }) := by
  have c5 := h.blk.cell 5
  simp [hd] at c5
  have HT := Lib.hid ht
  obtain ⟨ao, cap0, hpv⟩ : ∃ ao cap, pv = .slice ao st.pend.length cap := by
    rcases h.row.2 with ⟨h1, h2⟩ | ⟨g, cap, cur, h1, _⟩
    · exact ⟨none, 0, by rw [h1, h2]⟩
    · exact ⟨_, _, h1⟩
  subst hpv
  have td := Lib.hid st.tick_dur.1
  have tp := Lib.hid st.tick_dur.2
  have hroom := h.wf.room
  have hsec := Lib.hid h.wf.sect
  have hdat := Lib.hid h.wf.data
  clear ht hd
  go_enter Tryz.func76, Tryz.ntmps76
  go_wp2_with ((go_at_call 73; refine (fails_any h).mono ?_; rw [HT.out]; rintro e w1 ⟨rfl, hv, ht⟩; have d2 := hv.blk.cell 2; simp at d2))
  clear c5 d2 h
  go_loopw [22] (fun i wr => ∃ k : Nat, k ≤ st.pend.length ∧ i = .int .i64 k ∧ Vol wr vb (st.during k) mb (.slice ao st.pend.length cap0) ∧ Turn (foot vb mb (.slice ao st.pend.length cap0)) w wr) (fun i _ => st.pend.length - (intOf i).toNat)
  case atStart =>
    refine ⟨0, Nat.zero_le _, rfl, ?_, ht.mono (by simp [foot])⟩
    have e : st.during 0 = st.tick.2 := by
      unfold VS.during
      rw [← tp.out, show flush (st.tick.2.pend.take 0) st.dur = st.tick.2.dur from td.out.symm]
    rw [e]; exact hv
  case round =>
    clear hv ht
    obtain ⟨k, hk, rfl, hv, ht⟩ := hrel
    by_cases hlt : k < st.pend.length
    · obtain ⟨s, d, hx⟩ : ∃ s d, st.pend[k]? = some (s, d) := ⟨_, _, List.getElem?_eq_getElem hlt⟩
      have hxx := (List.getElem?_eq_some_iff.1 hx).2
      have hs := hsec.out _ (List.mem_of_getElem? hx)
      have hdd := hdat.out _ (List.mem_of_getElem? hx)
      have hp : PRow wr.heap.size wr (.slice ao st.pend.length cap0) st.pend := hv.prow
      rcases hp with ⟨e, _⟩ | ⟨g, cap, e, hg, hc⟩
      · injection e with e1 e2 e3
        omega
      · injection e with e1 e2 e3
        subst e1
        have hc' := hc k hlt
        rw [hxx] at hc'
        obtain ⟨hc1, hc2⟩ := hc'
        have HX := Lib.hid hx
        have HD := Lib.hid hdd
        have HS : Hid (s < (st.during k).dur.length) := Lib.hid (by rw [show (st.during k).dur.length = st.dur.length from flush_len _ _]; exact hs)
        clear hx hxx hdd hc e2 e3 hs
        go_wp2_with ((go_at_call 53; refine (keep_any s d (hv.below ((Below.refl _ wr).alloc (Nat.le_refl _) _)) HS.out HD.out).mono ?_; rintro e w2 ⟨rfl, hv2, ht2⟩))
        go_roundw
        case rel =>
          refine ⟨k + 1, by omega, by go_num, ?_, (ht.alloc _).trans ht2 (fun i hi => .inl (by simp at hi; subst hi; simp [foot]))⟩
          unfold VS.during
          rw [flush_step HX.out]
          exact hv2
        case measure => simp [intOf]; omega
    · obtain rfl : k = st.pend.length := by omega
      have d2 := hv.blk.cell 2
      have f2 := hv.blk.frozen 2
      simp at d2
      have hcl := hv.cleared
      have HC := Lib.hid hcl
      clear hcl
      go_wp2
      go_ret
      refine ⟨rfl, _, ⟨mb, _, ?_, rfl⟩, ht.setCell (p := ⟨vb, 2, none⟩) (.inl (by simp [foot])) _, fun i hi => .inl (foot_clear i hi)⟩
      have := HC.out
      unfold VS.during at this
      rw [List.take_length] at this
      exact this
end Go.Proofs.YtfdnpchbbngpjaaGreat
