/- The model's disk: start, create. -/
import Derived.Test.YtfhcecfddejcdaaVdsb
import Derived.Deep.RegionHeld3
import Derived.Deep.DrawnRows
namespace Go.Proofs.Ytfhcecfddejcdaa
attribute [local go_sem ↓] Go.wp_at_zero Go.wp_at_succ
open Go.RowKit Go.Maps

theorem dstart_up {w : World} {db : Nat} {st : VS} {dv pv : Value} (h : Dsk w db st dv pv) (hd : st.down = false) (ao : Option Addr) (n cap : Nat) :
    Calls Try.prog 51 #[.pointer (some ⟨db, 0, none⟩), .slice ao n cap] w fun e w' => e = .returned (.tuple #[]) ∧ w = w' := by
  have c3 := h.blk.cell 3
  simp [hd] at c3
  clear hd h
  go_enter Try.func51, Try.ntmps51
  go_wp2
  refine bodyPost_ret (results_none rfl _ _ _) rfl ?_
  exact ⟨rfl, rfl⟩

def DStartPost (F : List Nat) (w : World) (db : Nat) (st : VS) (e : Ending) (w' : World) : Prop := e = .returned (.tuple #[]) ∧ DStep F w w' db st
set_option maxRecDepth 100000 in
set_option maxHeartbeats 2000000 in
theorem dstart_down {w : World} {db : Nat} {st : VS} {dv pv : Value} (h : Dsk w db st dv pv) (hd : st.down = true) (sv : Value) (cs : List UInt8) (hb : Byts w sv cs) (hsep : ∀ i, sv.ownBlock = some i → i ∉ dfoot db dv pv) :
    Calls Try.prog 51 #[.pointer (some ⟨db, 0, none⟩), sv] w (DStartPost (dfoot db dv pv) w db (st.start cs)) := by
  have HST := Lib.hid (show st.start cs = ⟨settle st.pend cs st.dur, [], none, false⟩ from by unfold VS.start; rw [if_pos hd])
  rw [HST.out]
  have HD := Lib.hid hd
  obtain ⟨gd, capd, hdv, _⟩ := h.dvform
  obtain ⟨ao, cap0, hpv⟩ := h.pvform
  subst hpv
  subst hdv
  have hroom := h.wf.room
  have hsec := Lib.hid h.wf.sect
  have hdat := Lib.hid h.wf.data
  have c3 := h.blk.cell 3
  simp [hd] at c3
  obtain ⟨so, scap, rfl, hs1, hs2⟩ := hb
  clear hd
  go_enter Try.func51, Try.ntmps51
  go_wp2
  clear c3
  go_loopw [4] (fun i wr => ∃ (k : Nat) (ds : List ByteArray), k ≤ st.pend.length ∧ i = .int .i64 k ∧ Dsk wr db ⟨ds, st.pend, st.lim, true⟩ (.slice (some ⟨gd, 0, none⟩) st.dur.length capd) (.slice ao st.pend.length cap0) ∧ Turn (dfoot db (.slice (some ⟨gd, 0, none⟩) st.dur.length capd) (.slice ao st.pend.length cap0)) w wr ∧
      settle (st.pend.drop k) (cs.drop k) ds = settle st.pend cs st.dur ∧ ds.length = st.dur.length) (fun i _ => st.pend.length - (intOf i).toNat)
  case atStart => exact ⟨0, st.dur, Nat.zero_le _, rfl, by have := h; rw [show st = ⟨st.dur, st.pend, st.lim, true⟩ from by rw [← HD.out]] at this; exact this, Turn.refl _ _, rfl, rfl⟩
  case round =>
    obtain ⟨k, ds, hk, rfl, hv, ht, hset, hdl⟩ := hrel
    have c0 := hv.blk.cell 0
    have c1 := hv.blk.cell 1
    have hdbl := hv.blk.lt
    simp at c0 c1
    by_cases hlt : k < st.pend.length
    · obtain ⟨s, d, hx⟩ : ∃ s d, st.pend[k]? = some (s, d) := ⟨_, _, List.getElem?_eq_getElem hlt⟩
      have hxx := (List.getElem?_eq_some_iff.1 hx).2
      have hs := hsec.out _ (List.mem_of_getElem? hx)
      have hdd := hdat.out _ (List.mem_of_getElem? hx)
      have hp : PRow wr.heap.size wr (.slice ao st.pend.length cap0) st.pend := hv.prow
      rcases hp with ⟨e, _⟩ | ⟨g, cap, e, hg, hc⟩
      · injection e with e1 e2 e3
        omega
      · injection e with e1 e2 e3
        subst e1
        have hc' := hc k hlt
        rw [hxx] at hc'
        obtain ⟨hc1, hc2⟩ := hc'
        have HSET := Lib.hid (hset.symm.trans (settle_step hx))
        have HDL := Lib.hid hdl
        have HD1 := Lib.hid hdd
        have hsl : s < ds.length := by rw [hdl]; exact hs
        have HSL := Lib.hid hsl
        have HSV := Lib.hid (at_size hv.wf.dur s)
        have hsI : (s : Int) < (st.dur.length : Int) := by have : s < st.dur.length := hs; omega
        have hkI : (k : Int) < (st.pend.length : Int) := by omega
        have HV := Lib.hid (hv.below ((Below.refl _ wr).alloc (Nat.le_refl _) (.cells #[.int .i64 (s : Int), .string d] 87)))
        have HB := Lib.hid (Blk.new wr 87 #[.int .i64 (s : Int), .string d])
        have HT := Lib.hid (ht.alloc (.cells #[.int .i64 (s : Int), .string d] 87))
        clear hx hxx hdd hc e2 e3 hs hset hdl hsl hv
        obtain ⟨c, hcc⟩ : ∃ c, c = (cs.getD k 0).toNat := ⟨_, rfl⟩
        have hc256 : c < 256 := by rw [hcc]; exact UInt8.toNat_lt _
        rcases Nat.lt_or_ge k cs.length with hck | hck
        case' inl =>
          obtain ⟨sb, off, rfl, hsb, hcell⟩ := hs2 (by omega)
          have hcb := (ht.cell (p := ⟨sb, off + k, none⟩) hsb (hsep sb rfl)).trans (hcell k hck)
          rw [← hcc] at hcb
          have HC := Lib.hid hcc
          clear hcc hcell ht hs2
          go_wp2_with fail
        case' inr =>
          obtain rfl : c = 0 := by rw [hcc, List.getD_eq_getElem?_getD, List.getElem?_eq_none hck]; rfl
          have HC := Lib.hid hcc
          have hck' : decide (k < cs.length) = false := by simp; omega
          clear hcc ht hs2 hck
          go_wp2_with fail
        all_goals
          obtain ⟨W1, hW1⟩ : ∃ W1, wr.alloc (.cells #[.int .i64 (s : Int), .string d] 87) = W1 := ⟨_, rfl⟩
          have hv := HV.out
          have hbk := HB.out
          rw [hW1] at hv hbk ⊢
          have HT2 := Lib.hid (hW1 ▸ HT.out)
          clear HT HV HB hW1
          have x0 := hbk.cell 0
          have x1 := hbk.cell 1
          have y0 := hv.blk.cell 0
          simp at x0 x1 y0
          have n1 : (⟨gd, s, none⟩ : Addr) ≠ ⟨db, 0, none⟩ := fun e => hv.dv_ne (by injection e with e _ _; rw [← e]; rfl)
          have n2 : gd ≠ wr.heap.size := fun e => own_blk_ne hv.drow hbk (by decide) (by rw [← e]; rfl)
          have n3 : gd ≠ db := fun e => hv.dv_ne (by rw [← e]; rfl)
          obtain ⟨y1, y2⟩ := hv.dcell HDL.out.symm HSL.out
          have HV1 := Lib.hid (fun m => (hv.drewN m).setdur (d := surv (ds.getD s zb) d (cs.getD k 0).toNat) HDL.out.symm (s := s) (surv_size HSV.out HD1.out _))
          clear hv hbk
          refine wp_region_held_drew (S := (fun w' => w'.cell? ⟨db, 0, none⟩ = some (.slice (some ⟨gd, 0, none⟩) st.dur.length capd) ∧ w'.cell? ⟨wr.heap.size, 0, none⟩ = some (.int .i64 (s : Int)) ∧ w'.cell? ⟨wr.heap.size, 1, none⟩ = some (.string d))) (by kernel_rfl) ?_ (fun hHeld => ?_)
          · exact ⟨y0, x0, x1⟩
          refine wpAnyH_take (i := 0) (v := ?_) rfl (by kernel_rfl) (by kernel_rfl) (by kernel_rfl) (fun _ _ _ h => h) (Or.inl ⟨by rfl, ?_⟩) (by assumption) ?_
          rotate_left
          · (intro w hSw; (try dsimp only at hSw); go_simp; try with_reducible rfl)
          try simp only [Act.put]
          refine wpAnyH_take (i := 1) (v := ?_) rfl (by kernel_rfl) (by kernel_rfl) (by kernel_rfl) (fun _ _ _ h => h) (Or.inl ⟨by rfl, ?_⟩) (by assumption) ?_
          rotate_left
          · (intro w hSw; (try dsimp only at hSw); go_simp; try with_reducible rfl)
          try simp only [Act.put]
          refine wpAnyH_take (i := 2) (v := ?_) rfl (by kernel_rfl) (by kernel_rfl) (by kernel_rfl) (fun _ _ _ h => h) (Or.inl ⟨by rfl, ?_⟩) (by assumption) ?_
          rotate_left
          · (intro w hSw; (try dsimp only at hSw); go_simp; try with_reducible rfl)
          try simp only [Act.put]
          refine wpAnyH_take (i := 3) (v := ?_) rfl (by kernel_rfl) (by kernel_rfl) (by kernel_rfl) (fun _ _ _ h => h) (Or.inl ⟨by rfl, ?_⟩) (by assumption) ?_
          rotate_left
          · (intro w hSw; (try dsimp only at hSw); go_simp; try with_reducible rfl)
          try simp only [Act.put]
          refine wpAnyH_take (i := 4) (v := ?_) rfl (by kernel_rfl) (by kernel_rfl) (by kernel_rfl) (fun _ _ _ h => h) (Or.inl ⟨by rfl, ?_⟩) (by assumption) ?_
          rotate_left
          · (intro w hSw; (try dsimp only at hSw); go_simp; try with_reducible rfl)
          try simp only [Act.put]
          refine wpAnyH_take (i := 5) (v := ?_) rfl (by kernel_rfl) (by kernel_rfl) (by kernel_rfl) (fun _ _ _ h => h) (Or.inl ⟨by rfl, ?_⟩) (by assumption) ?_
          rotate_left
          · (intro w hSw; (try dsimp only at hSw); go_simp; try with_reducible rfl)
          try simp only [Act.put]
          refine wpAnyH_take (i := 6) (v := ?_) rfl (by kernel_rfl) (by kernel_rfl) (by kernel_rfl) (fun _ _ _ h => h) (Or.inl ⟨by rfl, ?_⟩) (by assumption) ?_
          rotate_left
          · (intro w hSw; (try dsimp only at hSw); go_simp; try with_reducible rfl)
          try simp only [Act.put]
          refine wpAnyH_take (i := 7) (v := ?_) rfl (by kernel_rfl) (by kernel_rfl) (by kernel_rfl) (fun _ _ _ h => h) (Or.inl ⟨by rfl, ?_⟩) (by assumption) ?_
          rotate_left
          · (intro w hSw; (try dsimp only at hSw); go_simp; try with_reducible rfl)
          try simp only [Act.put]
          refine wpAnyH_take (i := 8) (v := ?_) rfl (by kernel_rfl) (by kernel_rfl) (by kernel_rfl) (fun _ _ _ h => h) (Or.inl ⟨by rfl, ?_⟩) (by assumption) ?_
          rotate_left
          · (intro w hSw; (try dsimp only at hSw); go_simp; try with_reducible rfl)
          try simp only [Act.put]
          refine wpAnyH_take (i := 9) (v := ?_) rfl (by kernel_rfl) (by kernel_rfl) (by kernel_rfl) (fun _ _ _ h => h) (Or.inl ⟨by rfl, ?_⟩) (by assumption) ?_
          rotate_left
          · (intro w hSw; (try dsimp only at hSw); go_simp; try with_reducible rfl)
          try simp only [Act.put]
          refine wpAnyH_take (i := 10) (v := ?_) rfl (by kernel_rfl) (by kernel_rfl) (by kernel_rfl) (fun _ _ _ h => h) (Or.inl ⟨by rfl, ?_⟩) (by assumption) ?_
          rotate_left
          · (intro w hSw; (try dsimp only at hSw); go_simp; try with_reducible rfl)
          try simp only [Act.put]
          refine wpAnyH_take (i := 11) (v := ?_) rfl (by kernel_rfl) (by kernel_rfl) (by kernel_rfl) (fun _ _ _ h => h) (Or.inl ⟨by rfl, ?_⟩) (by assumption) ?_
          rotate_left
          · (intro w hSw; (try dsimp only at hSw); go_simp; try with_reducible rfl)
          try simp only [Act.put]
          refine wpAnyH_take (i := 12) (v := ?_) rfl (by kernel_rfl) (by kernel_rfl) (by kernel_rfl) (fun _ _ _ h => h) (Or.inl ⟨by rfl, ?_⟩) (by assumption) ?_
          rotate_left
          · (intro w hSw; (try dsimp only at hSw); go_simp; try with_reducible rfl)
          try simp only [Act.put]
          refine wpAnyH_take (i := 14) (v := ?_) rfl (by kernel_rfl) (by kernel_rfl) (by kernel_rfl) (fun _ _ _ h => h) (Or.inl ⟨by rfl, ?_⟩) (by assumption) ?_
          rotate_left
          · (intro w hSw; (try dsimp only at hSw); go_simp; try with_reducible rfl)
          try simp only [Act.put]
          refine wpAnyH_take (i := 15) (v := ?_) rfl (by kernel_rfl) (by kernel_rfl) (by kernel_rfl) (fun _ _ _ h => h) (Or.inl ⟨by rfl, ?_⟩) (by assumption) ?_
          rotate_left
          · (intro w hSw; (try dsimp only at hSw); go_simp; try with_reducible rfl)
          try simp only [Act.put]
          refine wpAnyH_take (i := 16) (v := ?_) rfl (by kernel_rfl) (by kernel_rfl) (by kernel_rfl) (fun _ _ _ h => h) (Or.inl ⟨by rfl, ?_⟩) (by assumption) ?_
          rotate_left
          · (intro w hSw; (try dsimp only at hSw); go_simp; try with_reducible rfl)
          try simp only [Act.put]
          refine wpAnyH_ready (rs := [13]) (by kernel_rfl) (by simp) ?_
          refine AllReadyH.cons rfl (fun K hK => ?_) AllReadyH.nil
          go_simp
          refine hK.out _ _ ?_ (fun hHeld => ?_)
          · go_keep
          clear hK K
          try simp only [Act.put]
          refine wpAnyH_ready (rs := [17]) (by kernel_rfl) (by simp) ?_
          refine AllReadyH.cons rfl (fun K hK => ?_) AllReadyH.nil
          go_simp
          go_at_call 14
          refine (lsurv_any _ _ _ hc256 _ HSV.out HD1.out).mono ?_
          rintro e w2 ⟨rfl, n2, rfl⟩
          go_wp2_with fail
          refine hK.out _ _ ?_ (fun hHeld => ?_)
          · go_keep
          clear hK K
          try simp only [Act.put]
          refine wpAnyH_take (i := 18) (v := ?_) rfl (by kernel_rfl) (by kernel_rfl) (by kernel_rfl) (fun _ _ _ h => h) (Or.inl ⟨by rfl, ?_⟩) (by assumption) ?_
          rotate_left
          · (intro w hSw; (try dsimp only at hSw); go_simp; try with_reducible rfl)
          try simp only [Act.put]
          refine wpAnyH_ready (rs := [19]) (by kernel_rfl) (by simp) ?_
          refine AllReadyH.cons rfl (fun K hK => ?_) AllReadyH.nil
          go_simp
          refine hK.out _ _ ?_ (fun hHeld => ?_)
          · go_keep
          clear hK K
          try simp only [Act.put]
          refine wpAnyH_done (by kernel_rfl) ?_ _
          have hv1 := HV1.out
          rw [← HC.out] at hv1
          have HV2 := Lib.hid hv1
          clear hv1
          go_wp2
          go_roundw
          case rel =>
            refine ⟨k + 1, _, by omega, by go_num, HV2.out _, ?_, ?_, by rw [List.length_set]; exact HDL.out⟩
            · exact (HT2.out.drewN _).setCell (p := ⟨gd, s, none⟩) (.inl (by simp [dfoot, Value.ownBlock])) _
            · rw [HSET.out, ← HC.out]
          case measure => simp [intOf]; omega
    · obtain rfl : k = st.pend.length := by omega
      have b2 := hv.blk.cell 2
      have b3 := hv.blk.cell 3
      have f1 := hv.blk.frozen 1
      have f2 := hv.blk.frozen 2
      have f3 := hv.blk.frozen 3
      simp at b2 b3
      have hds : ds = settle st.pend cs st.dur := by rw [← hset, List.drop_of_length_le (Nat.le_refl _)]; rfl
      have hcl : Dsk (((wr.setCell ⟨db, 1, none⟩ (.slice none 0 0)).setCell ⟨db, 2, none⟩ (.int .i64 (-1))).setCell ⟨db, 3, none⟩ (.bool false)) db ⟨ds, [], none, false⟩ (.slice (some ⟨gd, 0, none⟩) st.dur.length capd) (.slice none 0 0) := by
        have q1 := hv.cleared
        have t2 : Turn [db] (wr.setCell ⟨db, 1, none⟩ (.slice none 0 0)) (((wr.setCell ⟨db, 1, none⟩ (.slice none 0 0)).setCell ⟨db, 2, none⟩ (.int .i64 (-1))).setCell ⟨db, 3, none⟩ (.bool false)) := ((Turn.refl _ _).setCell (p := ⟨db, 2, none⟩) (.inl (by simp)) _).setCell (p := ⟨db, 3, none⟩) (.inl (by simp)) _
        have hw := h.wf.settled hdl hv.wf.dur none (fun l hl => by cases hl) false
        refine ⟨(q1.blk.set_ 2 (.int .i64 (-1))).set_ 3 (.bool false), row_turn q1.drow t2 (fun x hx hi => ?_), World.ownsRow_nil _ _ _ _, hw⟩
        have : x = db := by simpa using hi
        subst this
        exact h.dv_ne hx
      have htl := ((ht.setCell (p := ⟨db, 1, none⟩) (.inl (by simp [dfoot])) (.slice none 0 0)).setCell (p := ⟨db, 2, none⟩) (.inl (by simp [dfoot])) (.int .i64 (-1))).setCell (p := ⟨db, 3, none⟩) (.inl (by simp [dfoot])) (.bool false)
      have HCL := Lib.hid hcl
      have HTL := Lib.hid htl
      have HDS := Lib.hid hds
      clear hcl htl hds hset hdl ht
      go_wp2
      go_end0
      exact ⟨rfl, _, ⟨_, _, HDS.out ▸ HCL.out, rfl⟩, HTL.out, fun i hi => .inl (dfoot_clear i hi)⟩
theorem dstart_any {w : World} {db : Nat} {st : VS} {F : List Nat} (h : DskF w db st F) (sv : Value) (cs : List UInt8) (hb : Byts w sv cs) (hsep : ∀ i, sv.ownBlock = some i → i ∉ F) :
    Calls Try.prog 51 #[.pointer (some ⟨db, 0, none⟩), sv] w (DStartPost F w db (st.start cs)) := by
  obtain ⟨dv, pv, h, rfl⟩ := h
  by_cases hd : st.down = true
  · exact dstart_down h hd sv cs hb hsep
  · have hd' : st.down = false := by simpa using hd
    rw [show st.start cs = st from by unfold VS.start; rw [if_neg hd]]
    obtain ⟨ao, cap, rfl, _⟩ := hb
    exact (dstart_up h hd' ao _ cap).mono fun e w' ⟨he, hw⟩ => by subst hw; exact ⟨he, _, ⟨dv, pv, h, rfl⟩, Turn.refl _ _, fun i hi => .inl hi⟩
end Go.Proofs.Ytfhcecfddejcdaa
