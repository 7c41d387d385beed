/- A device: Start. -/
import Derived.Test.YtfdnpchbbngpjaaGreatVoli
import Derived.Deep.RegionHeld3
import Derived.Deep.DrawnRows
namespace Go.Proofs.YtfdnpchbbngpjaaGreat
attribute [local go_sem ↓] Go.wp_at_zero Go.wp_at_succ
open Go.RowKit Go.Maps

/-- the value is a slice of bytes that reads as the list -/
def Byts (w : World) (v : Value) (l : List UInt8) : Prop :=
  ∃ ao cap, v = .slice ao l.length cap ∧ l.length ≤ 9223372036854775807 ∧ (0 < l.length → ∃ b off, ao = some ⟨b, off, none⟩ ∧ b < w.heap.size ∧ ∀ j, j < l.length → w.cell? ⟨b, off + j, none⟩ = some (.int .u8 ((l.getD j 0).toNat : Int)))
theorem Byts.turn {w w' : World} {v : Value} {l : List UInt8} (h : Byts w v l) {F : List Nat} (ht : Turn F w w') (hn : ∀ i, v.ownBlock = some i → i ∉ F) : Byts w' v l := by
  obtain ⟨ao, cap, rfl, h2, h3⟩ := h
  refine ⟨ao, cap, rfl, h2, fun hl => ?_⟩
  obtain ⟨b, off, rfl, hb, hc⟩ := h3 hl
  have hnb := hn b rfl
  exact ⟨b, off, rfl, Nat.lt_of_lt_of_le hb ht.size, fun j hj => (ht.cell (p := ⟨b, off + j, none⟩) hb hnb).trans (hc j hj)⟩

theorem Vol.drewN {w : World} {vb : Nat} {st : VS} {mb : Nat} {pv : Value} (h : Vol w vb st mb pv) (n : Nat) : Vol (w.drewN n) vb st mb pv := h.turn (G := []) ((Turn.refl [] w).drewN n) (fun _ _ => by simp)
theorem Vol.drew {w : World} {vb : Nat} {st : VS} {mb : Nat} {pv : Value} (h : Vol w vb st mb pv) : Vol w.drew vb st mb pv := h.turn (G := []) ((Turn.refl [] w).drew) (fun _ _ => by simp)

theorem settle_step {ps : List (Nat × ByteArray)} {cs : List UInt8} {ds : List ByteArray} {k : Nat} {p : Nat × ByteArray} (h : ps[k]? = some p) :
    settle (ps.drop k) (cs.drop k) ds = settle (ps.drop (k + 1)) (cs.drop (k + 1)) (ds.set p.1 (surv (ds.getD p.1 zb) p.2 (cs.getD k 0).toNat)) := by
  obtain ⟨hk, he⟩ := List.getElem?_eq_some_iff.1 h
  rw [List.drop_eq_getElem_cons hk, he]
  have e1 : (cs.drop k).tail = cs.drop (k + 1) := by simp
  have e2 : (cs.drop k).headD 0 = cs.getD k 0 := by simp [List.headD_eq_head?_getD]
  show settle (ps.drop (k + 1)) (cs.drop k).tail (ds.set p.1 (surv (ds.getD p.1 zb) p.2 ((cs.drop k).headD 0).toNat)) = _
  rw [e1, e2]

theorem start_up {w : World} {vb : Nat} {st : VS} {mb : Nat} {pv : Value} (h : Vol w vb st mb pv) (hd : st.down = false) (ao : Option Addr) (n cap : Nat) :
    Calls Tryz.prog 18 #[.pointer (some ⟨vb, 0, none⟩), .slice ao n cap] w fun e w' => e = .returned (.tuple #[]) ∧ w = w' := by
  have HD := Lib.hid hd
  clear hd
  go_enter Tryz.func18, Tryz.ntmps18
  go_wp2_with ((go_at_call 14; refine (down_any h).mono ?_; rw [HD.out]; rintro e w1 ⟨rfl, rfl⟩))
  refine bodyPost_ret (results_none rfl _ _ _) rfl ?_
  exact ⟨rfl, rfl⟩

def StartPost (F : List Nat) (w : World) (vb : Nat) (st : VS) (e : Ending) (w' : World) : Prop := e = .returned (.tuple #[]) ∧ Step F w w' vb st
set_option maxRecDepth 100000 in
set_option maxHeartbeats 2000000 in
theorem start_down {w : World} {vb : Nat} {st : VS} {mb : Nat} {pv : Value} (h : Vol w vb st mb pv) (hd : st.down = true) (sv : Value) (cs : List UInt8) (hb : Byts w sv cs) (hsep : 0 < cs.length → ∀ i, sv.ownBlock = some i → i ∉ foot vb mb pv) :
    Calls Tryz.prog 18 #[.pointer (some ⟨vb, 0, none⟩), sv] w (StartPost (foot vb mb pv) w vb (st.start cs)) := by
  have HST := Lib.hid (show st.start cs = ⟨settle st.pend cs st.dur, [], none, false⟩ from by unfold VS.start; rw [if_pos hd])
  rw [HST.out]
  have HD := Lib.hid hd
  obtain ⟨ao, cap0, hpv⟩ : ∃ ao cap, pv = .slice ao st.pend.length cap := by
    rcases h.row.2 with ⟨h1, h2⟩ | ⟨g, cap, cur, h1, _⟩
    · exact ⟨none, 0, by rw [h1, h2]⟩
    · exact ⟨_, _, h1⟩
  subst hpv
  have hroom := h.wf.room
  have hsec := Lib.hid h.wf.sect
  have hdat := Lib.hid h.wf.data
  have d2 := h.blk.cell 2
  simp at d2
  obtain ⟨so, scap, rfl, hs1, hs2⟩ := hb
  clear hd
  go_enter Tryz.func18, Tryz.ntmps18
  go_wp2_with ((go_at_call 14; refine (down_any h).mono ?_; rw [HD.out]; rintro e w1 ⟨rfl, rfl⟩))
  clear d2
  go_loopw [15] (fun i wr => ∃ (k : Nat) (ds : List ByteArray), k ≤ st.pend.length ∧ i = .int .i64 k ∧ Vol wr vb ⟨ds, st.pend, st.lim, true⟩ mb (.slice ao st.pend.length cap0) ∧ Turn (foot vb mb (.slice ao st.pend.length cap0)) w wr ∧
      settle (st.pend.drop k) (cs.drop k) ds = settle st.pend cs st.dur ∧ ds.length = st.dur.length) (fun i _ => st.pend.length - (intOf i).toNat)
  case atStart => exact ⟨0, st.dur, Nat.zero_le _, rfl, by have := h; rw [show st = ⟨st.dur, st.pend, st.lim, true⟩ from by rw [← HD.out]] at this; exact this, Turn.refl _ _, rfl, rfl⟩
  case round =>
    obtain ⟨k, ds, hk, rfl, hv, ht, hset, hdl⟩ := hrel
    by_cases hlt : k < st.pend.length
    · obtain ⟨s, d, hx⟩ : ∃ s d, st.pend[k]? = some (s, d) := ⟨_, _, List.getElem?_eq_getElem hlt⟩
      have hxx := (List.getElem?_eq_some_iff.1 hx).2
      have hs := hsec.out _ (List.mem_of_getElem? hx)
      have hdd := hdat.out _ (List.mem_of_getElem? hx)
      have hp : PRow wr.heap.size wr (.slice ao st.pend.length cap0) st.pend := hv.prow
      rcases hp with ⟨e, _⟩ | ⟨g, cap, e, hg, hc⟩
      · injection e with e1 e2 e3
        omega
      · injection e with e1 e2 e3
        subst e1
        have hc' := hc k hlt
        rw [hxx] at hc'
        obtain ⟨hc1, hc2⟩ := hc'
        have HSET := Lib.hid (hset.symm.trans (settle_step hx))
        have HDL := Lib.hid hdl
        have HD1 := Lib.hid hdd
        have HS : Hid (s < (⟨ds, st.pend, st.lim, true⟩ : VS).dur.length) := Lib.hid (by show s < ds.length; rw [hdl]; exact hs)
        have HSV := Lib.hid (at_size hv.wf.dur s)
        have hv1 : ∀ o, Vol (wr.alloc o) vb ⟨ds, st.pend, st.lim, true⟩ mb (.slice (some ⟨g, 0, none⟩) st.pend.length cap0) := fun o => hv.below ((Below.refl _ wr).alloc (Nat.le_refl _) o)
        have HVA := Lib.hid hv1
        have HT := Lib.hid ht
        clear hx hxx hdd hc e2 e3 hs hset hdl hv1 hv
        obtain ⟨c, hcc⟩ : ∃ c, c = (cs.getD k 0).toNat := ⟨_, rfl⟩
        have hc256 : c < 256 := by rw [hcc]; exact UInt8.toNat_lt _
        have hvW := HVA.out (.cells #[.int .i64 (s : Int), .string d] 102)
        have hbW := Blk.new wr 102 #[.int .i64 (s : Int), .string d]
        have tW := ht.alloc (.cells #[.int .i64 (s : Int), .string d] 102)
        have HTW := Lib.hid tW
        have HVW := Lib.hid hvW
        have HBW := Lib.hid hbW
        clear tW hvW hbW
        rcases Nat.lt_or_ge k cs.length with hck | hck
        case' inl =>
          obtain ⟨sb, off, rfl, hsb, hcell⟩ := hs2 (by omega)
          have hcb := (ht.cell (p := ⟨sb, off + k, none⟩) hsb (hsep (by omega) sb rfl)).trans (hcell k hck)
          rw [← hcc] at hcb
          have hcbo : ∀ o, (wr.alloc o).cell? ⟨sb, off + k, none⟩ = some (.int .u8 (c : Int)) := fun o => (World.cell?_of_block (a := ⟨sb, off + k, none⟩) (Below.heap_alloc _ _ sb (Nat.lt_of_lt_of_le hsb ht.size))).trans hcb
          have HC := Lib.hid hcc
          clear hcc hcell ht hs2 hcb
          go_wp2_with fail
        case' inr =>
          obtain rfl : c = 0 := by rw [hcc, List.getD_eq_getElem?_getD, List.getElem?_eq_none hck]; rfl
          have HC := Lib.hid hcc
          have hck' : decide (k < cs.length) = false := by simp; omega
          clear hcc ht hs2 hck
          go_wp2_with fail
        all_goals
          obtain ⟨W1, hW1⟩ : ∃ W1, wr.alloc (.cells #[.int .i64 (s : Int), .string d] 102) = W1 := ⟨_, rfl⟩
          have hv := HVW.out
          have hbk := HBW.out
          rw [hW1] at hv hbk ⊢
          have HTW2 := Lib.hid (hW1 ▸ HTW.out)
          clear HTW HVW HBW HVA hW1
          have hlt1 := hbk.lt
          have x0 := hbk.cell 0
          have x1 := hbk.cell 1
          simp at x0 x1
          have HV := Lib.hid hv.drew
          have HBK := Lib.hid hbk
          have HMB := Lib.hid (map_blk_ne hv.map hbk)
          clear hv hbk
          go_region_held3 (fun w' => w'.cell? ⟨wr.heap.size, 0, none⟩ = some (.int .i64 (s : Int)) ∧ w'.cell? ⟨wr.heap.size, 1, none⟩ = some (.string d))
            (first | go_keep)
            (first
              | (go_at_call 55; refine (stable_any s HV.out HS.out).mono ?_; rintro e w1 ⟨rfl, hb⟩; have k0 := (hb.cell (p := ⟨wr.heap.size, 0, none⟩) hlt1).trans x0; have k1 := (hb.cell (p := ⟨wr.heap.size, 1, none⟩) hlt1).trans x1; have HV1 := Lib.hid (HV.out.below hb); have hsz1 := hb.size)
              | (go_at_call 54; refine (surv_any _ _ _ (by omega) _ HSV.out HD1.out).mono ?_; rintro e w2 ⟨rfl, n2, rfl⟩)
              | (go_at_call 53; refine (keep_any s _ (HV1.out.drewN _) HS.out (surv_size HSV.out HD1.out _)).mono ?_; rintro e w3 ⟨rfl, hv3, ht3⟩; have m0 := (ht3.cell (p := ⟨wr.heap.size, 0, none⟩) (Nat.lt_of_lt_of_le hlt1 hsz1) (by simp; exact fun e => HMB.out e.symm)).trans k0; have m1 := (ht3.cell (p := ⟨wr.heap.size, 1, none⟩) (Nat.lt_of_lt_of_le hlt1 hsz1) (by simp; exact fun e => HMB.out e.symm)).trans k1))
          go_wp2
          go_roundw
          case rel =>
            refine ⟨k + 1, _, by omega, by go_num, hv3, ?_, ?_, by rw [List.length_set]; exact HDL.out⟩
            · exact ((HTW2.out.drew.below hb (Nat.le_trans HTW2.out.size (Nat.le_refl _))).drewN _).trans ht3 (fun i hi => .inl (by simp at hi; subst hi; simp [foot]))
            · rw [HSET.out, ← HC.out]
          case measure => simp [intOf]; omega
    · obtain rfl : k = st.pend.length := by omega
      have b2 := hv.blk.cell 2
      have b3 := hv.blk.cell 3
      have b4 := hv.blk.cell 4
      have b5 := hv.blk.cell 5
      have f2 := hv.blk.frozen 2
      have f3 := hv.blk.frozen 3
      have f4 := hv.blk.frozen 4
      have f5 := hv.blk.frozen 5
      simp at b2 b3 b4 b5
      have hds : ds = settle st.pend cs st.dur := by rw [← hset, List.drop_of_length_le (Nat.le_refl _)]; rfl
      have hcl : Vol ((((wr.setCell ⟨vb, 2, none⟩ (.slice none 0 0)).setCell ⟨vb, 3, none⟩ (.bool false)).setCell ⟨vb, 4, none⟩ (.int .i64 0)).setCell ⟨vb, 5, none⟩ (.bool false)) vb ⟨ds, [], none, false⟩ mb (.slice none 0 0) := by
        have q1 : Vol (wr.setCell ⟨vb, 2, none⟩ (.slice none 0 0)) vb ⟨ds, [], st.lim, true⟩ mb (.slice none 0 0) := hv.cleared
        have hw := h.wf.settled hdl hv.wf.dur
        refine ⟨?_, ?_, World.ownsRow_nil _ _ _ _, hw none (fun l hl => by cases hl) false⟩
        · exact (((q1.blk.set_ 3 (.bool false)).set_ 4 (.int .i64 0)).set_ 5 (.bool false))
        · exact (((q1.map.setCell h.mb_ne _).setCell h.mb_ne _).setCell h.mb_ne _)
      have htl := (((ht.setCell (p := ⟨vb, 2, none⟩) (.inl (by simp [foot])) (.slice none 0 0)).setCell (p := ⟨vb, 3, none⟩) (.inl (by simp [foot])) (.bool false)).setCell (p := ⟨vb, 4, none⟩) (.inl (by simp [foot])) (.int .i64 0)).setCell (p := ⟨vb, 5, none⟩) (.inl (by simp [foot])) (.bool false)
      have HCL := Lib.hid hcl
      have HTL := Lib.hid htl
      have HDS := Lib.hid hds
      clear hcl htl hds hset hdl ht
      go_wp2
      go_end0
      exact ⟨rfl, _, ⟨mb, _, HDS.out ▸ HCL.out, rfl⟩, HTL.out, fun i hi => .inl (foot_clear i hi)⟩
/-- Start, whole -/
theorem start_opt {w : World} {vb : Nat} {st : VS} {F : List Nat} (h : VolF w vb st F) (sv : Value) (cs : List UInt8) (hb : Byts w sv cs) (hsep : 0 < cs.length → ∀ i, sv.ownBlock = some i → i ∉ F) :
    Calls Tryz.prog 18 #[.pointer (some ⟨vb, 0, none⟩), sv] w (StartPost F w vb (st.start cs)) := by
  obtain ⟨mb, pv, h, rfl⟩ := h
  by_cases hd : st.down = true
  · exact start_down h hd sv cs hb hsep
  · have hd' : st.down = false := by simpa using hd
    rw [show st.start cs = st from by unfold VS.start; rw [if_neg hd]]
    obtain ⟨ao, cap, rfl, _⟩ := hb
    exact (start_up h hd' ao _ cap).mono fun e w' ⟨he, hw⟩ => by subst hw; exact ⟨he, _, ⟨mb, pv, h, rfl⟩, Turn.refl _ _, fun i hi => .inl hi⟩
/-- Barrier, whole -/
theorem start_any {w : World} {vb : Nat} {st : VS} {F : List Nat} (h : VolF w vb st F) (sv : Value) (cs : List UInt8) (hb : Byts w sv cs) (hsep : ∀ i, sv.ownBlock = some i → i ∉ F) :
    Calls Tryz.prog 18 #[.pointer (some ⟨vb, 0, none⟩), sv] w (StartPost F w vb (st.start cs)) := start_opt h sv cs hb (fun _ => hsep)
theorem barrier_any {w : World} {vb : Nat} {st : VS} {F : List Nat} (h : VolF w vb st F) :
    Calls Tryz.prog 76 #[.pointer (some ⟨vb, 0, none⟩)] w fun e w' => e = .returned (.int .i64 (st.barrier.1 : Int)) ∧ Step F w w' vb st.barrier.2 := by
  obtain ⟨mb, pv, h, rfl⟩ := h
  by_cases hd : st.down = true
  · rw [show st.barrier = (36, st) from by unfold VS.barrier; rw [if_pos hd]]
    exact (barrier_down h hd).mono fun e w' ⟨he, hw⟩ => by subst hw; exact ⟨he, _, ⟨mb, pv, h, rfl⟩, Turn.refl _ _, fun i hi => .inl hi⟩
  · have hd' : st.down = false := by simpa using hd
    by_cases ht : st.tick.1 = true
    · rw [show st.barrier = (36, st.tick.2) from by unfold VS.barrier; rw [if_neg hd]; simp only; rw [if_pos ht]]
      exact (barrier_fails h hd' ht).mono fun e w' ⟨he, hv, hT⟩ => ⟨he, _, ⟨mb, pv, hv, rfl⟩, hT.mono (fun i hi => by simp at hi; subst hi; exact Vol.foot_vb), fun i hi => .inl hi⟩
    · have ht' : st.tick.1 = false := by simpa using ht
      rw [show st.barrier = (0, { st.tick.2 with dur := flush st.pend st.dur, pend := [] }) from by unfold VS.barrier; rw [if_neg hd]; simp only; rw [if_neg ht, st.tick_dur.1, st.tick_dur.2]]
      exact barrier_ok h hd' ht'
end Go.Proofs.YtfdnpchbbngpjaaGreat
