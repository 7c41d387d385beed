/- The model's disk: content, barrier. -/
import Derived.Test.YtfhcecfddejcdaaVdsk
import Derived.BigRegion
namespace Go.Proofs.Ytfhcecfddejcdaa
open Go.RowKit Go.Maps

theorem last_snoc (l : List (Nat × ByteArray)) (p : Nat × ByteArray) (s : Nat) : lastAt (l ++ [p]) s = if p.1 = s then some p.2 else lastAt l s := by
  unfold lastAt
  rw [List.reverse_append, List.reverse_singleton, List.singleton_append, List.find?_cons]
  by_cases h : p.1 = s
  · simp [h]
  · have : (p.1 == s) = false := by simpa using h
    rw [this, if_neg h]
theorem last_take {ps : List (Nat × ByteArray)} {j : Nat} {p : Nat × ByteArray} (h : ps[j]? = some p) (s : Nat) : lastAt (ps.take (j + 1)) s = if p.1 = s then some p.2 else lastAt (ps.take j) s := by
  rw [List.take_add_one, h]
  exact last_snoc _ _ _
theorem Dsk.prow {w : World} {db : Nat} {st : VS} {dv pv : Value} (h : Dsk w db st dv pv) : PRow w.heap.size w pv st.pend := by
  have hr := h.row
  rcases hr.2 with ⟨h1, h2⟩ | ⟨g, cap, cur, h1, _, hh, _⟩
  · exact .inl ⟨h1, List.eq_nil_of_length_eq_zero h2⟩
  · refine .inr ⟨g, cap, h1, (Array.getElem?_eq_some_iff.1 hh).1, fun j hj => ?_⟩
    subst h1
    have hp := pcells_at (List.getElem?_eq_getElem hj)
    have e1 := hr.cellAt (2 * j) (by omega)
    have e2 := hr.cellAt (2 * j + 1) (by omega)
    rw [hp.1] at e1
    rw [hp.2] at e2
    rw [Nat.mul_comm j 2]
    exact ⟨e1, e2⟩
theorem Dsk.dcell {w : World} {db : Nat} {st : VS} {g cap n : Nat} {pv : Value} (h : Dsk w db st (.slice (some ⟨g, 0, none⟩) n cap) pv) (hn : n = st.dur.length) {s : Nat} (hs : s < st.dur.length) : w.cell? ⟨g, s, none⟩ = some (.string (st.at_ s)) ∧ w.frozen? ⟨g, s, none⟩ = false := by
  have hr := h.drow
  subst hn
  have e1 := hr.cellAt s (by omega)
  refine ⟨?_, hr.frozenAt s⟩
  rw [e1]
  unfold strs VS.at_
  rw [List.getElem?_map, List.getElem?_eq_getElem hs, List.getD_eq_getElem?_getD, List.getElem?_eq_getElem hs]
  rfl

set_option maxRecDepth 100000 in
set_option maxHeartbeats 800000 in
theorem dcontent_any (s : Nat) {w : World} {db : Nat} {st : VS} {dv pv : Value} (h : Dsk w db st dv pv) (hs : s < st.dur.length) :
    Calls Try.prog 49 #[.pointer (some ⟨db, 0, none⟩), .int .i64 (s : Int)] w fun e w' => e = .returned (.string (st.content s)) ∧ w = w' := by
  have c0 := h.blk.cell 0
  have c1 := h.blk.cell 1
  obtain ⟨gd, capd, hdv, _⟩ := h.dvform
  obtain ⟨ao, cap0, hpv⟩ := h.pvform
  subst hpv
  subst hdv
  have hroom := h.wf.room
  have hdc := (h.dcell rfl hs).1
  have hp := Lib.hid h.prow
  have hsI : (s : Int) < (st.dur.length : Int) := by omega
  simp at c0 c1
  clear h
  go_enter Try.func49, Try.ntmps49
  go_wp2
  go_loop [5] (fun i => ∃ m : Nat, m ≤ st.pend.length ∧ i = .int .i64 ((m : Int) - 1) ∧ lastAt st.pend s = lastAt (st.pend.take m) s) (fun i => (intOf i + 1).toNat)
  case atStart => exact ⟨st.pend.length, Nat.le_refl _, rfl, by rw [List.take_length]⟩
  case round =>
    obtain ⟨m, hm, rfl, hl⟩ := hrel
    cases m with
    | zero =>
      have HL := Lib.hid hl
      clear hl
      go_wp2
      go_ret
      exact ⟨by unfold VS.content; rw [HL.out]; rfl, rfl⟩
    | succ j =>
      obtain ⟨s', d, hx⟩ : ∃ s d, st.pend[j]? = some (s, d) := ⟨_, _, List.getElem?_eq_getElem (by omega)⟩
      have hxx := (List.getElem?_eq_some_iff.1 hx).2
      rw [last_take hx] at hl
      rcases hp.out with ⟨e, _⟩ | ⟨g, cap, e, hg, hc⟩
      · injection e with e1 e2 e3
        omega
      · injection e with e1 e2 e3
        subst e1
        have hc' := hc j (by omega)
        rw [hxx] at hc'
        obtain ⟨hc1, hc2⟩ := hc'
        have HL := Lib.hid hl
        clear hx hxx hc e2 e3 hl hp
        by_cases hss : s' = s
        · have ex : ((s' : Int) == (s : Int)) = true := by rw [hss]; simp
          have HS := Lib.hid hss
          clear hss
          go_wp2
          go_ret
          exact ⟨by unfold VS.content; rw [HL.out, if_pos HS.out]; rfl, rfl⟩
        · have ex : ((s' : Int) == (s : Int)) = false := by rw [beq_eq_false_iff_ne]; omega
          have HS := Lib.hid hss
          clear hss
          go_wp2
          go_round
          case rel => exact ⟨j, by omega, by simp, by rw [HL.out, if_neg HS.out]⟩
          case measure => simp [intOf]

theorem Dsk.setdur {w : World} {db : Nat} {st : VS} {g cap n : Nat} {pv : Value} (h : Dsk w db st (.slice (some ⟨g, 0, none⟩) n cap) pv) (hn : n = st.dur.length) {s : Nat} {d : ByteArray} (hd : d.size = 256) :
    Dsk (w.setCell ⟨g, s, none⟩ (.string d)) db ⟨st.dur.set s d, st.pend, st.lim, st.down⟩ (.slice (some ⟨g, 0, none⟩) n cap) pv := by
  subst hn
  have hst := h.drow.stored s (.string d)
  have t : Turn [g] w (w.setCell ⟨g, s, none⟩ (.string d)) := (Turn.refl _ w).setCell (.inl (by simp)) _
  refine ⟨h.blk.turn t (by have := h.dv_ne; simp [Value.ownBlock] at this; simp; exact fun e => this e.symm), ?_, row_turn h.row t (fun x hx hi => by
    have : x = g := by simpa using hi
    subst this
    exact h.dp_ne rfl hx), ?_⟩
  · have := hst.1
    show (w.setCell _ _).ownsRow 0 _ 1 _ (st.dur.set s d).length (strs (st.dur.set s d))
    unfold strs at this ⊢
    rw [List.length_set, List.map_set]
    exact this
  · exact ⟨by simp; exact h.wf.pos, by simp; exact h.wf.len, set_sizes h.wf.dur s hd, by simp; exact fun a b hm => h.wf.sect (a, b) hm, h.wf.data, h.wf.room, h.wf.lim⟩
theorem Dsk.drewN {w : World} {db : Nat} {st : VS} {dv pv : Value} (h : Dsk w db st dv pv) (n : Nat) : Dsk (w.drewN n) db st dv pv := h.turn (G := []) ((Turn.refl [] w).drewN n) (fun _ _ => by simp)
theorem Dsk.drew {w : World} {db : Nat} {st : VS} {dv pv : Value} (h : Dsk w db st dv pv) : Dsk w.drew db st dv pv := h.turn (G := []) ((Turn.refl [] w).drew) (fun _ _ => by simp)
theorem Dsk.cleared {w : World} {db : Nat} {st : VS} {dv pv : Value} (h : Dsk w db st dv pv) : Dsk (w.setCell ⟨db, 1, none⟩ (.slice none 0 0)) db ⟨st.dur, [], st.lim, st.down⟩ dv (.slice none 0 0) := by
  have t : Turn [db] w (w.setCell ⟨db, 1, none⟩ (.slice none 0 0)) := (Turn.refl _ w).setCell (.inl (by simp)) _
  exact ⟨h.blk.set_ 1 _, row_turn h.drow t (fun g hg => by
      have := h.dv_ne
      simp
      rintro rfl
      exact this hg), World.ownsRow_nil _ _ _ _, h.wf.settled rfl h.wf.dur _ h.wf.lim _⟩
theorem dfoot_clear {db : Nat} {dv pv : Value} : ∀ i, i ∈ dfoot db dv (.slice none 0 0) → i ∈ dfoot db dv pv := by
  intro i hi
  simp [dfoot, Value.ownBlock] at hi ⊢
  rcases hi with rfl | hi
  · exact .inl rfl
  · exact .inr (.inl hi)

set_option maxRecDepth 100000 in
theorem dbarrier_down {w : World} {db : Nat} {st : VS} {dv pv : Value} (h : Dsk w db st dv pv) (hd : st.down = true) :
    Calls Try.prog 50 #[.pointer (some ⟨db, 0, none⟩)] w fun e w' => e = .returned (.int .i64 36) ∧ w = w' := by
  have c3 := h.blk.cell 3
  simp [hd] at c3
  clear h hd
  go_enter Try.func50, Try.ntmps50
  go_wp2
  go_ret
  exact ⟨rfl, rfl⟩
set_option maxRecDepth 100000 in
theorem dbarrier_fails {w : World} {db : Nat} {st : VS} {dv pv : Value} (h : Dsk w db st dv pv) (hd : st.down = false) (ht : st.tick.1 = true) :
    Calls Try.prog 50 #[.pointer (some ⟨db, 0, none⟩)] w fun e w' => e = .returned (.int .i64 36) ∧ Dsk w' db st.tick.2 dv pv ∧ Turn [db] w w' := by
  have c3 := h.blk.cell 3
  simp [hd] at c3
  have HT := Lib.hid ht
  clear ht hd
  go_enter Try.func50, Try.ntmps50
  go_wp2_with ((go_at_call 57; refine (dfails_any h).mono ?_; rw [HT.out]; rintro e w1 ⟨rfl, hv, ht⟩))
  go_ret
  exact ⟨rfl, hv, ht⟩
def DBarPost (F : List Nat) (w : World) (db : Nat) (st : VS) (e : Ending) (w' : World) : Prop := e = .returned (.int .i64 0) ∧ DStep F w w' db st
set_option maxRecDepth 100000 in
set_option maxHeartbeats 2000000 in
theorem dbarrier_ok {w : World} {db : Nat} {st : VS} {dv pv : Value} (h : Dsk w db st dv pv) (hd : st.down = false) (ht : st.tick.1 = false) :
    Calls Try.prog 50 #[.pointer (some ⟨db, 0, none⟩)] w (DBarPost (dfoot db dv pv) w db { st.tick.2 with dur := flush st.pend st.dur, pend := [] }) := by
  have c3 := h.blk.cell 3
  simp [hd] at c3
  have HT := Lib.hid ht
  obtain ⟨gd, capd, hdv, _⟩ := h.dvform
  obtain ⟨ao, cap0, hpv⟩ := h.pvform
  subst hpv
  subst hdv
  have td := Lib.hid st.tick_dur.1
  have tp := Lib.hid st.tick_dur.2
  have hroom := h.wf.room
  have hsec := Lib.hid h.wf.sect
  have hdat := Lib.hid h.wf.data
  clear ht hd
  go_enter Try.func50, Try.ntmps50
  go_wp2_with ((go_at_call 57; refine (dfails_any h).mono ?_; rw [HT.out]; rintro e w1 ⟨rfl, hv, ht⟩))
  clear c3
  go_loopw [3] (fun i wr => ∃ k : Nat, k ≤ st.pend.length ∧ i = .int .i64 k ∧ Dsk wr db (st.during k) (.slice (some ⟨gd, 0, none⟩) st.dur.length capd) (.slice ao st.pend.length cap0) ∧ Turn (dfoot db (.slice (some ⟨gd, 0, none⟩) st.dur.length capd) (.slice ao st.pend.length cap0)) w wr) (fun i _ => st.pend.length - (intOf i).toNat)
  case atStart =>
    refine ⟨0, Nat.zero_le _, rfl, ?_, ht.mono (by simp [dfoot])⟩
    have e : st.during 0 = st.tick.2 := by
      unfold VS.during
      rw [← tp.out, show flush (st.tick.2.pend.take 0) st.dur = st.tick.2.dur from td.out.symm]
    rw [e]; exact hv
  case round =>
    clear hv ht
    obtain ⟨k, hk, rfl, hv, ht⟩ := hrel
    have c0 := hv.blk.cell 0
    have c1 := hv.blk.cell 1
    simp at c0 c1
    by_cases hlt : k < st.pend.length
    · obtain ⟨s, d, hx⟩ : ∃ s d, st.pend[k]? = some (s, d) := ⟨_, _, List.getElem?_eq_getElem hlt⟩
      have hxx := (List.getElem?_eq_some_iff.1 hx).2
      have hs := hsec.out _ (List.mem_of_getElem? hx)
      have hdd := hdat.out _ (List.mem_of_getElem? hx)
      have hp : PRow wr.heap.size wr (.slice ao st.pend.length cap0) st.pend := hv.prow
      rcases hp with ⟨e, _⟩ | ⟨g, cap, e, hg, hc⟩
      · injection e with e1 e2 e3
        omega
      · injection e with e1 e2 e3
        subst e1
        have hc' := hc k hlt
        rw [hxx] at hc'
        obtain ⟨hc1, hc2⟩ := hc'
        have HX := Lib.hid hx
        have hdl : (st.during k).dur.length = st.dur.length := flush_len _ _
        obtain ⟨y1, y2⟩ := hv.dcell hdl.symm (s := s) (by rw [hdl]; exact hs)
        have hv2 := hv.setdur hdl.symm (s := s) (d := d) hdd
        have HV2 := Lib.hid hv2
        have hkI : (k : Int) < (st.pend.length : Int) := by omega
        have hsI : (s : Int) < (st.dur.length : Int) := by have : s < st.dur.length := hs; omega
        have HT2 := Lib.hid (ht.setCell (p := ⟨gd, s, none⟩) (.inl (by simp [dfoot, Value.ownBlock])) (.string d))
        clear hx hxx hdd hc e2 e3 hs hdl hv2 hv ht
        generalize (st.during k).at_ s = old at *
        go_wp2
        go_region
        all_goals
          go_wp2
          go_roundw
          case rel =>
            refine ⟨k + 1, by omega, by go_num, ?_, HT2.out.drew⟩
            unfold VS.during
            rw [flush_step HX.out]
            exact HV2.out.drew
          case measure => simp [intOf]; omega
    · obtain rfl : k = st.pend.length := by omega
      have f1 := hv.blk.frozen 1
      have hcl := hv.cleared
      have HC := Lib.hid hcl
      clear hcl
      go_wp2
      go_ret
      refine ⟨rfl, _, ⟨_, _, ?_, rfl⟩, ht.setCell (p := ⟨db, 1, none⟩) (.inl (by simp [dfoot])) _, fun i hi => .inl (dfoot_clear i hi)⟩
      have := HC.out
      unfold VS.during at this
      rw [List.take_length] at this
      exact this
theorem dbarrier_any {w : World} {db : Nat} {st : VS} {F : List Nat} (h : DskF w db st F) :
    Calls Try.prog 50 #[.pointer (some ⟨db, 0, none⟩)] w fun e w' => e = .returned (.int .i64 (st.barrier.1 : Int)) ∧ DStep F w w' db st.barrier.2 := by
  obtain ⟨dv, pv, h, rfl⟩ := h
  by_cases hd : st.down = true
  · rw [show st.barrier = (36, st) from by unfold VS.barrier; rw [if_pos hd]]
    exact (dbarrier_down h hd).mono fun e w' ⟨he, hw⟩ => by subst hw; exact ⟨he, _, ⟨dv, pv, h, rfl⟩, Turn.refl _ _, fun i hi => .inl hi⟩
  · have hd' : st.down = false := by simpa using hd
    by_cases ht : st.tick.1 = true
    · rw [show st.barrier = (36, st.tick.2) from by unfold VS.barrier; rw [if_neg hd]; simp only; rw [if_pos ht]]
      exact (dbarrier_fails h hd' ht).mono fun e w' ⟨he, hv, hT⟩ => ⟨he, _, ⟨dv, pv, hv, rfl⟩, hT.mono (fun i hi => by simp at hi; subst hi; exact Dsk.foot_db), fun i hi => .inl hi⟩
    · have ht' : st.tick.1 = false := by simpa using ht
      rw [show st.barrier = (0, { st.tick.2 with dur := flush st.pend st.dur, pend := [] }) from by unfold VS.barrier; rw [if_neg hd]; simp only; rw [if_neg ht, st.tick_dur.1, st.tick_dur.2]]
      exact dbarrier_ok h hd' ht'
end Go.Proofs.Ytfhcecfddejcdaa
