/- agrees: a device and a disk in one state. -/
import Derived.Test.YtfhcecfddejcdaaVprd
namespace Go.Proofs.Ytfhcecfddejcdaa
open Go.RowKit Go.Maps

theorem VolF.drewN {w : World} {vb : Nat} {st : VS} {F : List Nat} (h : VolF w vb st F) (n : Nat) : VolF (w.drewN n) vb st F := h.turn (G := []) ((Turn.refl [] w).drewN n) (fun _ _ => by simp)
set_option maxRecDepth 100000 in
set_option maxHeartbeats 2000000 in
theorem agrees_any {w : World} {vb db : Nat} {st : VS} {F G : List Nat} (hv : VolF w vb st F) (hd : DskF w db st G) :
    Calls Try.prog 38 #[.pointer (some ⟨vb, 0, none⟩), .pointer (some ⟨db, 0, none⟩)] w fun e w' => e = .returned (.bool true) ∧ Below w.heap.size w w' := by
  obtain ⟨mb, pv, hv, rfl⟩ := hv
  obtain ⟨dv, dp, hd, rfl⟩ := hd
  have c0 := hd.blk.cell 0
  have c1 := hd.blk.cell 1
  have c3 := hd.blk.cell 3
  have dlt := hd.blk.lt
  obtain ⟨gd, capd, hdv, hgd⟩ := hd.dvform
  obtain ⟨ao, cap0, hpv⟩ := hd.pvform
  subst hdv
  subst hpv
  obtain ⟨b, hbn⟩ : ∃ b, st.down = b := ⟨_, rfl⟩
  rw [hbn] at c3
  have HDN := Lib.hid hbn
  clear hbn
  simp at c0 c1 c3
  go_enter Try.func38, Try.ntmps38
  go_wp2_with fail
  go_quiet ((first
    | (go_at_call 19; exact (len_any (hv.drewN _)).mono fun _ _ ⟨he, hw⟩ => ⟨he, _, hw.symm⟩)
    | (go_at_call 24; exact (down_any (hv.drewN _)).mono fun _ _ ⟨he, hw⟩ => ⟨HDN.out ▸ he, _, hw.symm⟩)))
  go_wp2_with fail
  refine (pending_any (hv.drewN _)).mono ?_
  rintro e w1 ⟨v, rfl, ho, hb0⟩
  have hb : Below w.heap.size w w1 := ⟨hb0.os, hb0.tape, hb0.output, hb0.size, hb0.block⟩
  have hsl : (sects st.pend).length = st.pend.length := by simp [sects]
  obtain ⟨po, pc, hvv⟩ : ∃ po pc, v = .slice po st.pend.length pc := by
    rw [hsl] at ho
    rcases ho.2 with ⟨h1, h2⟩ | ⟨g, cap, cur, h1, _⟩
    · exact ⟨none, 0, by rw [h1, h2]⟩
    · exact ⟨_, _, h1⟩
  subst hvv
  have hd1 := hd.below hb
  have hv1 := hv.below hb
  have c0 := (hb.cell (p := ⟨db, 0, none⟩) dlt).trans c0
  have c1 := (hb.cell (p := ⟨db, 1, none⟩) dlt).trans c1
  have c3 := (hb.cell (p := ⟨db, 3, none⟩) dlt).trans c3
  have HP := Lib.hid hd1.prow
  have HO := Lib.hid ho
  have HB := Lib.hid hb
  have HD1 := Lib.hid hd1
  have HV1 := Lib.hid hv1
  have hroom := hd.wf.room
  have hlen := hd.wf.len
  clear hb0 hb ho hd hv hd1 hv1
  go_wp2_with fail
  go_loopw [6] (fun i wr => ∃ k m : Nat, k ≤ st.pend.length ∧ i = .int .i64 k ∧ wr = w1.drewN m) (fun i _ => st.pend.length - (intOf i).toNat)
  case atStart => exact ⟨0, 0, Nat.zero_le _, rfl, rfl⟩
  case round =>
    obtain ⟨k, m, hk, rfl, rfl⟩ := hrel
    by_cases hlt : k < st.pend.length
    · obtain ⟨s, d, hx⟩ : ∃ s d, st.pend[k]? = some (s, d) := ⟨_, _, List.getElem?_eq_getElem hlt⟩
      have hxx := (List.getElem?_eq_some_iff.1 hx).2
      rcases HP.out with ⟨e, _⟩ | ⟨g, cap, e, hg, hc⟩
      · injection e with e1 e2 e3
        omega
      · injection e with e1 e2 e3
        subst e1
        have hc' := (hc k hlt).1
        rw [hxx] at hc'
        have hfo := HO.out
        rw [hsl] at hfo
        obtain ⟨pg, pcap, e4, _, _⟩ := hfo.form (by omega)
        injection e4 with e5 e6 e7
        subst e5
        subst e7
        have hp' : w1.cell? ⟨pg, k, none⟩ = some (.int .i64 (s : Int)) := by
          rw [hfo.cellAt k (by omega)]
          unfold sects
          rw [List.map_map, List.getElem?_map, hx]
          rfl
        have hkI : (k : Int) < (st.pend.length : Int) := by omega
        have hk0 : (0 : Int) ≤ (k : Int) := by omega
        clear hx hxx hc e2 e3 hfo HO
        go_wp2_with fail
        go_quiet (fail)
        go_wp2
        go_roundw
        case rel => exact ⟨k + 1, _, by omega, by go_num, rfl⟩
        case measure => simp [intOf]; omega
    · obtain rfl : k = st.pend.length := by omega
      clear HO HP
      go_wp2_with fail
      go_loopw [7] (fun i wr => ∃ k : Nat, k ≤ st.dur.length ∧ i = .int .i64 k ∧ Below w1.heap.size w1 wr) (fun i _ => st.dur.length - (intOf i).toNat)
      case atStart => exact ⟨0, Nat.zero_le _, rfl, ⟨rfl, rfl, rfl, Nat.le_refl _, fun _ _ => rfl⟩⟩
      case round =>
        obtain ⟨k, hk2, rfl, hbr⟩ := hrel
        have hdr := HD1.out.below hbr
        have hvr := HV1.out.below hbr
        have r0 := hdr.blk.cell 0
        have HDR := Lib.hid hdr
        have HVR := Lib.hid hvr
        simp at r0
        clear c0 c1 c3 hdr hvr hk
        by_cases hlt2 : k < st.dur.length
        · have hin : inR (k : Int) st.dur.length = true := inR_iff.2 ⟨by omega, by omega⟩
          have hkI : (k : Int) < (st.dur.length : Int) := by omega
          have HDU := Lib.hid (show st.durable (k : Int) = (st.at_ k, 0) from by unfold VS.durable; rw [if_neg (by rw [hin]; simp), Int.toNat_natCast])
          cases b
          · have HRE := Lib.hid (show st.read (k : Int) = (st.content k, 0) from by unfold VS.read; rw [if_neg (by rw [HDN.out]; simp), if_neg (by rw [hin]; simp), Int.toNat_natCast])
            clear hin
            go_wp2_with (first
              | (go_at_call 21; refine (durable_any (k : Int) HVR.out).mono ?_; rw [HDU.out]; rintro e wa ⟨rfl, hba⟩; have HVA := Lib.hid (HVR.out.below hba); have HDA := Lib.hid (HDR.out.below hba))
              | (go_at_call 20; refine (read_any (k : Int) ⟨mb, pv, HVA.out, rfl⟩).mono ?_; rw [HRE.out]; rintro e wb ⟨rfl, hbb⟩; have HDB := Lib.hid (HDA.out.below hbb); have q0 := HDB.out.blk.cell 0; have q3 := HDB.out.blk.cell 3; have qd := (HDB.out.dcell rfl hlt2).1; rw [HDN.out] at q3; simp at q0 q3)
              | (go_at_call 49; refine (dcontent_any k HDB.out hlt2).mono ?_; rintro e wc ⟨rfl, rfl⟩))
            go_roundw
            case rel => exact ⟨k + 1, by omega, by go_num, (hbr.trans (hba.mono hbr.size)).trans (hbb.mono (Nat.le_trans hbr.size hba.size))⟩
            case measure => simp [intOf]; omega
          · have HRE := Lib.hid (show st.read (k : Int) = (⟨#[]⟩, 36) from by unfold VS.read; rw [if_pos HDN.out])
            clear hin
            go_wp2_with (first
              | (go_at_call 21; refine (durable_any (k : Int) HVR.out).mono ?_; rw [HDU.out]; rintro e wa ⟨rfl, hba⟩; have HVA := Lib.hid (HVR.out.below hba); have HDA := Lib.hid (HDR.out.below hba))
              | (go_at_call 20; refine (read_any (k : Int) ⟨mb, pv, HVA.out, rfl⟩).mono ?_; rw [HRE.out]; rintro e wb ⟨rfl, hbb⟩; have HDB := Lib.hid (HDA.out.below hbb); have q0 := HDB.out.blk.cell 0; have q3 := HDB.out.blk.cell 3; have qd := (HDB.out.dcell rfl hlt2).1; rw [HDN.out] at q3; simp at q0 q3))
            go_roundw
            case rel => exact ⟨k + 1, by omega, by go_num, (hbr.trans (hba.mono hbr.size)).trans (hbb.mono (Nat.le_trans hbr.size hba.size))⟩
            case measure => simp [intOf]; omega
        · obtain rfl : k = st.dur.length := by omega
          go_wp2
          go_ret
          exact ⟨rfl, HB.out.trans (hbr.mono HB.out.size)⟩
end Go.Proofs.Ytfhcecfddejcdaa
