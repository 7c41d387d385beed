/- The records of a device, one after the other: what the iterator promises. -/
import Derived.Test.YtfdnpchbbngpjaaGreatJby
import Derived.Test.YtfdnpchbbngpjaaGreatJtk
import Derived.RegionIn
namespace Go.Proofs.YtfdnpchbbngpjaaGreat
open Go.RowKit Go.Maps Go.Shelf
attribute [local go_sem] Oper.semAt_some

/-- a record's place and length are in bounds -/
def OkR (x : Rc) : Prop := x.1 < 281474976710656 ∧ x.2.size ≤ 65536
def encR (x : Rc) : Array Value := #[.agg #[.int .i64 (x.1 : Int), .string x.2]]
/-- the blocks of X stand as they were -/
def KeepX (X : List Nat) (W W' : World) : Prop := W.heap.size ≤ W'.heap.size ∧ ∀ i, i ∈ X → W'.heap[i]? = W.heap[i]?
theorem VolF.kept {w w' : World} {vb : Nat} {st : VS} {F : List Nat} (h : VolF w vb st F) (hk : ∀ i, i ∈ F → w'.heap[i]? = w.heap[i]?) : VolF w' vb st F := by
  obtain ⟨mb, pv, hv, rfl⟩ := h
  refine ⟨mb, pv, ⟨?_, ?_, ?_, hv.wf⟩, rfl⟩
  · exact (hk vb (by simp [foot])).trans hv.blk
  · obtain ⟨es, clock, hb, r⟩ := hv.map
    exact ⟨es, clock, (hk mb (by simp [foot])).trans hb, r⟩
  · obtain ⟨h1, h2⟩ := hv.row
    refine ⟨h1, ?_⟩
    rcases h2 with h2 | ⟨g, cap, cur, rfl, hg, hh, r⟩
    · exact .inl h2
    · exact .inr ⟨g, cap, cur, rfl, hg, (hk g (by simp [foot, Value.ownBlock])).trans hh, r⟩
theorem Blk.kept {w w' : World} {b : Nat} {t : TypeId} {cs : Array Value} (h : Blk w b t cs) (hk : w'.heap[b]? = w.heap[b]?) : Blk w' b t cs := hk.trans h
/-- what the iterator holds -/
structure Held (W : World) (hB vB tB vb tb : Nat) (H : Hd) (st : VS) (F : List Nat) : Prop where
  h : Blk W hB 85 (hcells H)
  v : Blk W vB 24 #[.pointer (some ⟨vb, 0, none⟩)]
  t : Blk W tB 83 #[.pointer (some ⟨tb, 0, none⟩)]
  vol : VolF W vb st F
  tab : Tb W tb 1 0 crc8
def holdX (hB vB tB tb : Nat) (F : List Nat) : List Nat := hB :: vB :: tB :: tb :: F
theorem Held.kept {W W' : World} {hB vB tB vb tb : Nat} {H : Hd} {st : VS} {F : List Nat} (h : Held W hB vB tB vb tb H st F) (hk : KeepX (holdX hB vB tB tb F) W W') : Held W' hB vB tB vb tb H st F :=
  ⟨h.h.kept (hk.2 _ (by simp [holdX])), h.v.kept (hk.2 _ (by simp [holdX])), h.t.kept (hk.2 _ (by simp [holdX])), h.vol.kept (fun i hi => hk.2 i (by simp [holdX, hi])), Blk.kept h.tab (hk.2 _ (by simp [holdX]))⟩
theorem Held.below {W W' : World} {hB vB tB vb tb : Nat} {H : Hd} {st : VS} {F : List Nat} (h : Held W hB vB tB vb tb H st F) (hb : Below W.heap.size W W') : Held W' hB vB tB vb tb H st F :=
  ⟨h.h.below hb h.h.lt, h.v.below hb h.v.lt, h.t.below hb h.t.lt, h.vol.below hb, Blk.below h.tab hb (Blk.lt h.tab)⟩
theorem grown_none {W W' : World} (hb : Below W.heap.size W W') : W.grownBy W' none := ⟨hb.os, hb.tape, hb.output, hb.size, fun i hi _ => hb.block i hi⟩
theorem AbidesFrom.low {β : Type} {B : Nat} {J : β → World → Prop} (h : AbidesFrom B J) {s : β} {W W' : World} (hs : J s W) (hb : Below W.heap.size W W') : J s W' := h s W W' none hs (grown_none hb) (fun r e => by cases e)

theorem ext_segF (s : ByteArray) (a b : Nat) : (s.extract a b).data.toList = (s.data.toList.drop a).take (b - a) := by
  rw [ByteArray.data_extract, Array.toList_extract]
theorem valI_of' {l : List UInt8} (h : beV l < 9223372036854775808) : valI l = (beV l : Int) := by
  unfold valI wrap64
  rw [Nat.mod_eq_of_lt (by omega)]
  omega
theorem val_seg4 (s : ByteArray) (a : Nat) : valI (s.extract a (a + 4)).data.toList = (field s.data.toList a 4 : Int) := by
  rw [ext_segF, show a + 4 - a = 4 from by omega]
  have := beV_lt ((s.data.toList.drop a).take 4)
  have hl : ((s.data.toList.drop a).take 4).length ≤ 4 := by rw [List.length_take]; omega
  have : 256 ^ ((s.data.toList.drop a).take 4).length ≤ 256 ^ 4 := Nat.pow_le_pow_right (by decide) hl
  exact valI_of' (by omega)
theorem val_seg8 (s : ByteArray) (a k : Nat) (hk : k < 9223372036854775808) : (valI (s.extract a (a + 8)).data.toList == (k : Int)) = (field s.data.toList a 8 == k) := by
  rw [ext_segF, show a + 8 - a = 8 from by omega]
  have hb := beV_lt ((s.data.toList.drop a).take 8)
  have hl : ((s.data.toList.drop a).take 8).length ≤ 8 := by rw [List.length_take]; omega
  have h2 : 256 ^ ((s.data.toList.drop a).take 8).length ≤ 256 ^ 8 := Nat.pow_le_pow_right (by decide) hl
  unfold field valI wrap64
  rw [Nat.mod_eq_of_lt (by omega), Bool.eq_iff_iff, beq_iff_eq, beq_iff_eq]
  omega
theorem YieldAt.use {F : Fence} {m : Nat} {P : Program} {l : Nat} {args : Array Value} {W : World} {R : Ending → World → Prop} {G : Prop} (h : YieldAt F m P l args W R)
    (k : ∀ fn tmps assign body, (Instr.yield l args).run P W = .ok (.round l fn tmps assign body) W → RoundIn F m P l fn tmps assign body W R → G) : G := by
  obtain ⟨fn, tmps, assign, body, hy, hR⟩ := h
  exact k fn tmps assign body hy hR
set_option maxRecDepth 100000 in
set_option maxHeartbeats 40000000 in
theorem frames1_in (n : Nat) (hn : 1 ≤ n) (l hB vB tB vb tb : Nat) (H : Hd) (hsm : H.small) {st : VS} {F : List Nat} (hd : st.down = false) {m : Nat} (hl : st.dur.length = m + 2) (hm : 1 ≤ m) (J Jx : List Rc → World → Prop) (W : World)
    (hJ : AbidesFrom W.heap.size J)
    (hY : ∀ pre x W1, J pre W1 → pre.length < (fr st.area H.en H.beg H.first).length → OkR x → YieldAt Fence.wide (n - 1) Tryz.prog l (encR x) W1 fun e W' =>
      (e = .returned (.bool true) ∧ J (pre ++ [x]) W' ∧ KeepX (holdX hB vB tB tb F) W1 W') ∨ (e = .returned (.bool false) ∧ Jx (pre ++ [x]) W'))
    (hH : Held W hB vB tB vb tb H st F) (h0 : J [] W) :
    CallsIn Fence.wide n Tryz.prog 81 #[.func (.yield l) #[] #[], .pointer (some ⟨hB, 0, none⟩), .pointer (some ⟨vB, 0, none⟩), .pointer (some ⟨tB, 0, none⟩)] W fun e W' => (∃ v, e = .returned v) ∧
      ((∃ ys, ys = fr st.area H.en H.beg H.first ∧ J ys W') ∨ (∃ pre, pre <+: pre ∧ Jx pre W')) := by
  obtain ⟨hs1, hs2, hs3, hs4⟩ := hsm
  refine callsIn_of_wp Tryz.func81 rfl trivial ?_ rfl
  simp only [Tryz.ntmps81, List.size_toArray, List.length_cons, List.length_nil, Nat.reduceAdd, Nat.reduceSub, Array.replicate_succ, Array.replicate_zero, List.push_toArray, List.append_toArray, List.nil_append, List.cons_append]
  have c1 := hH.h.cell 1
  have c2 := hH.h.cell 2
  unfold hcells at c1 c2
  simp at c1 c2
  gi_wp2
  gi_region
  gi_wp2
  clear c1 c2
  obtain ⟨N, hN⟩ : ∃ N, (fr st.area H.en H.beg H.first).length = N := ⟨_, rfl⟩
  rw [hN] at hY
  gi_loopw [5, 6] (fun i j wr => ∃ (pre : List Rc) (p k : Nat), i = .int .i64 (p : Int) ∧ j = .int .i64 (k : Int) ∧ fr st.area H.en H.beg H.first = pre ++ fr st.area H.en p k ∧ J pre wr ∧ Held wr hB vB tB vb tb H st F ∧ k = H.first + pre.length ∧ H.beg + 16 * pre.length ≤ p ∧ (p ≤ H.en ∨ p = H.beg)) (fun i _ _ => H.en - (intOf i).toNat)
  case atStart =>
    have hbd : Below W.heap.size W W.drew := below_drewN (n := 1) (Below.refl _ _)
    exact ⟨[], H.beg, H.first, rfl, rfl, rfl, AbidesFrom.low hJ h0 hbd, hH.below hbd, rfl, by simp, .inr rfl⟩
  case round =>
    clear h0 hH
    obtain ⟨pre, p, k, rfl, rfl, hfr, hJp, hH, hkk, hpp, hpe⟩ := hrel
    have c1 := hH.h.cell 1
    have c2 := hH.h.cell 2
    have c3 := hH.h.cell 3
    have cv := hH.v.cell 0
    have ct := hH.t.cell 0
    unfold hcells at c1 c2 c3
    simp at c1 c2 c3 cv ct
    have hA : st.area.length = 256 * m := by rw [hH.vol.wf.area, hl]; rfl
    have hlen : pre.length + (fr st.area H.en p k).length = N := by rw [← hN, hfr, List.length_append]
    by_cases h16 : H.en < p + 16
    · have e1 : fr st.area H.en p k = [] := fr_end h16
      rw [e1, List.append_nil] at hfr
      have HF := Lib.hid hfr
      clear hfr hlen
      gi_wp2
      go_end0
      exact ⟨⟨_, rfl⟩, .inl ⟨_, HF.out.symm, hJp⟩⟩
    · have hpe' : p ≤ H.en := by omega
      have hp0 : p ≤ 1125899906842624 := by omega
      obtain ⟨s, hs⟩ : ∃ s, bytesOf (rd st.area p 16) = s := ⟨_, rfl⟩
      have hsl : s.data.toList = rd st.area p 16 := by rw [← hs, bytesOf_list]
      have hsz : s.size = 16 := by rw [← hs, bytesOf_size, rd_length]
      obtain ⟨sz, hszz⟩ : ∃ sz, fsize st.area p = sz := ⟨_, rfl⟩
      have hszlt : sz < 4294967296 := by
        rw [← hszz]
        have := beV_lt ((rd st.area p 16).take 4)
        unfold fsize field
        have hl4 : ((rd st.area p 16).take 4).length ≤ 4 := by rw [List.length_take]; omega
        have : 256 ^ ((rd st.area p 16).take 4).length ≤ 256 ^ 4 := Nat.pow_le_pow_right (by decide) hl4
        show beV ((rd st.area p 16).take 4) < _
        omega
      have hv1 : ∀ w, Calls Tryz.prog 83 #[.string (s.extract 0 4)] w fun e w' => e = .returned (.int .i64 (sz : Int)) ∧ w = w' := by
        intro w
        have := value_any (s.extract 0 4) (by rw [ByteArray.size_extract]; omega) w
        rw [val_seg4 s 0, hsl] at this
        rw [← hszz]; exact this
      obtain ⟨q2, hq2⟩ : ∃ q, valI (s.extract 4 12).data.toList = q := ⟨_, rfl⟩
      have hv2 : ∀ w, Calls Tryz.prog 83 #[.string (s.extract 4 12)] w fun e w' => e = .returned (.int .i64 q2) ∧ w = w' := by
        intro w
        have := value_any (s.extract 4 12) (by rw [ByteArray.size_extract]; omega) w
        rw [hq2] at this
        exact this
      have hb2 : (q2 == (k : Int)) = (field (rd st.area p 16) 4 8 == k) := by
        rw [← hq2, ← hsl]
        exact val_seg8 s 4 k (by omega)
      have HBY := Lib.hid (bytes_any hH.vol hd hl hm p 16 hp0 (by decide))
      rw [hs] at HBY
      have HV1 := Lib.hid hv1
      have HV2 := Lib.hid hv2
      clear hv1 hv2
      by_cases hf1 : 65536 < sz
      · have hstop : fr st.area H.en p k = [] := fr_stop (by unfold frFits; rw [hszz]; simp; omega)
        rw [hstop, List.append_nil] at hfr
        have HF := Lib.hid hfr
        clear hfr hlen hq2 hb2 hszz hsl hs
        gi_wp2_with (first
          | (refine ⟨trivial, ?_⟩; gi_at_call 82; refine (callsIn_wide.2 HBY.out).mono ?_; rintro e w1 ⟨rfl, hb1⟩; have hH1 := hH.below hb1; have d3 := hH1.h.cell 3; have dv := hH1.v.cell 0; unfold hcells at d3; simp at d3 dv)
          | (refine ⟨trivial, ?_⟩; gi_at_call 83; refine (callsIn_wide.2 (HV1.out _)).mono ?_; rintro e w2 ⟨rfl, rfl⟩)
          | (refine ⟨trivial, ?_⟩))
        refine bodyPost_ret (results_none rfl _ _ _) rfl ?_
        exact ⟨⟨_, rfl⟩, .inl (by first | (rw [HF.out]; exact AbidesFrom.low hJ hJp hb1) | (rw [HF.out]; exact ⟨_, rfl, AbidesFrom.low hJ hJp hb1⟩))⟩
      · by_cases hf2 : H.en < p + 16 + sz
        · have hstop : fr st.area H.en p k = [] := fr_stop (by unfold frFits; rw [hszz]; simp; omega)
          rw [hstop, List.append_nil] at hfr
          have HF := Lib.hid hfr
          clear hfr hlen hq2 hb2 hszz hsl hs
          have e1 : decide (65536 < (sz : Int)) = false := by simp; omega
          have e2 : decide ((H.en : Int) - (p : Int) - 16 < (sz : Int)) = true := by simp; omega
          gi_wp2_with (first
          | (refine ⟨trivial, ?_⟩; gi_at_call 82; refine (callsIn_wide.2 HBY.out).mono ?_; rintro e w1 ⟨rfl, hb1⟩; have hH1 := hH.below hb1; have d3 := hH1.h.cell 3; have dv := hH1.v.cell 0; unfold hcells at d3; simp at d3 dv)
          | (refine ⟨trivial, ?_⟩; refine callsIn_wide.2 ?_; go_at_call_of 83 (Value.string (s.extract 0 4)); refine ((HV1.out _)).mono ?_; rintro e w2 ⟨rfl, rfl⟩)
          | (refine ⟨trivial, ?_⟩; refine callsIn_wide.2 ?_; go_at_call_of 83 (Value.string (s.extract 4 12)); refine ((HV2.out _)).mono ?_; rintro e w2 ⟨rfl, rfl⟩)
          | (refine ⟨trivial, ?_⟩))
          refine bodyPost_ret (results_none rfl _ _ _) rfl ?_
          exact ⟨⟨_, rfl⟩, .inl (by first | (rw [HF.out]; exact AbidesFrom.low hJ hJp hb1) | (rw [HF.out]; exact ⟨_, rfl, AbidesFrom.low hJ hJp hb1⟩))⟩
        · have e1 : decide (65536 < (sz : Int)) = false := by simp; omega
          have e2 : decide ((H.en : Int) - (p : Int) - 16 < (sz : Int)) = false := by simp; omega
          cases hb : (q2 == (k : Int)) with
          | false =>
            have hstop : fr st.area H.en p k = [] := fr_stop (by unfold frFits; rw [← hb2, hb]; simp)
            rw [hstop, List.append_nil] at hfr
            have HF := Lib.hid hfr
            clear hfr hlen hq2 hb2 hszz hsl hs
            gi_wp2_with (first
          | (refine ⟨trivial, ?_⟩; gi_at_call 82; refine (callsIn_wide.2 HBY.out).mono ?_; rintro e w1 ⟨rfl, hb1⟩; have hH1 := hH.below hb1; have d3 := hH1.h.cell 3; have dv := hH1.v.cell 0; unfold hcells at d3; simp at d3 dv)
          | (refine ⟨trivial, ?_⟩; refine callsIn_wide.2 ?_; go_at_call_of 83 (Value.string (s.extract 0 4)); refine ((HV1.out _)).mono ?_; rintro e w2 ⟨rfl, rfl⟩)
          | (refine ⟨trivial, ?_⟩; refine callsIn_wide.2 ?_; go_at_call_of 83 (Value.string (s.extract 4 12)); refine ((HV2.out _)).mono ?_; rintro e w2 ⟨rfl, rfl⟩)
          | (refine ⟨trivial, ?_⟩))
            refine bodyPost_ret (results_none rfl _ _ _) rfl ?_
            exact ⟨⟨_, rfl⟩, .inl (by first | (rw [HF.out]; exact AbidesFrom.low hJ hJp hb1) | (rw [HF.out]; exact ⟨_, rfl, AbidesFrom.low hJ hJp hb1⟩))⟩
          | true =>
            obtain ⟨D, hD⟩ : ∃ D, bytesOf (rd st.area (p + 16) sz) = D := ⟨_, rfl⟩
            have hDz : D.size = sz := by rw [← hD, bytesOf_size, rd_length]
            have HBD := Lib.hid (fun (w : World) (h : VolF w vb st F) => bytes_any h hd hl hm (p + 16) sz (by omega) (by omega))
            rw [hD] at HBD
            clear hq2 hs
            gi_wp2_with (first
              | (refine ⟨trivial, ?_⟩; refine callsIn_wide.2 ?_; go_at_call_of 82 (Value.int .i64 16); refine (HBY.out).mono ?_; rintro e w1 ⟨rfl, hb1⟩; have hH1 := hH.below hb1; have d3 := hH1.h.cell 3; have dv := hH1.v.cell 0; unfold hcells at d3; simp at d3 dv)
              | (refine ⟨trivial, ?_⟩; refine callsIn_wide.2 ?_; go_at_call_of 82 (Value.int .i64 (sz : Int)); refine ((HBD.out _ hH1.vol)).mono ?_; rintro e w3 ⟨rfl, hb3⟩; have hH3 := hH1.below hb3; have dt := hH3.t.cell 0; simp at dt)
              | (refine ⟨trivial, ?_⟩; refine callsIn_wide.2 ?_; go_at_call_of 83 (Value.string (s.extract 0 4)); refine ((HV1.out _)).mono ?_; rintro e w2 ⟨rfl, rfl⟩)
              | (refine ⟨trivial, ?_⟩; refine callsIn_wide.2 ?_; go_at_call_of 83 (Value.string (s.extract 4 12)); refine ((HV2.out _)).mono ?_; rintro e w2 ⟨rfl, rfl⟩))
            have hv3 : ∀ w, Calls Tryz.prog 83 #[.string (s.extract 12 16)] w fun e w' => e = .returned (.int .i64 (field (rd st.area p 16) 12 4 : Int)) ∧ w = w' := by
              intro w
              have := value_any (s.extract 12 16) (by rw [ByteArray.size_extract]; omega) w
              rw [val_seg4 s 12, hsl] at this
              exact this
            have z12 : (s.extract 0 12).size = 12 := by rw [ByteArray.size_extract]; omega
            have hcd : (s.extract 0 12 ++ D).data.toList = (rd st.area p 16).take 12 ++ fdata st.area p := by
              rw [ByteArray.data_append, Array.toList_append, ext_segF, hsl, ← hD, bytesOf_list]
              unfold fdata
              rw [hszz]
              rfl
            have hck : ∀ w, Tb w tb 1 0 crc8 → Calls Tryz.prog 49 #[.pointer (some ⟨tb, 0, none⟩), .string (s.extract 0 12 ++ D)] w fun e w' => e = .returned (.int .i64 (crc ((rd st.area p 16).take 12 ++ fdata st.area p) : Int)) ∧ ∃ n, w' = w.drewN n := by
              intro w h
              have := checksum_done (s.extract 0 12 ++ D) (by rw [ByteArray.size_append, z12, hDz]; omega) h
              rw [hcd] at this
              exact this
            obtain ⟨x1, hx1⟩ : ∃ x, field (rd st.area p 16) 12 4 = x := ⟨_, rfl⟩
            obtain ⟨x2, hx2⟩ : ∃ x, crc ((rd st.area p 16).take 12 ++ fdata st.area p) = x := ⟨_, rfl⟩
            rw [hx1] at hv3
            rw [hx2] at hck
            have hsum : frSum st.area p = (x1 == x2) := by unfold frSum; rw [hx1, hx2]
            have HV3 := Lib.hid hv3
            have HCK := Lib.hid hck
            have HSUM := Lib.hid hsum
            have HSLD := Lib.hid (And.intro hD hszz)
            clear hv3 hck hsum hx1 hx2 hcd hsl hD
            have hbig : 12 + sz ≤ 9223372036854775807 := by omega
            have hJ3 : J pre w3 := AbidesFrom.low hJ (AbidesFrom.low hJ hJp hb1) hb3
            have HJ : Hid (∀ i, J pre (w3.drewN i)) := Lib.hid (fun i => AbidesFrom.low hJ hJ3 (below_drewN (Below.refl _ _)))
            by_cases hxx : x1 = x2
            · have e3 : ((x1 : Int) != (x2 : Int)) = false := by rw [bne_eq_false_iff_eq]; omega
              have hxt : (x1 == x2) = true := by rw [beq_iff_eq]; exact hxx
              have hgo : fr st.area H.en p k = (p, D) :: fr st.area H.en (p + 16 + sz) (k + 1) := by
                rw [fr_go (by omega) (by rw [HSUM.out, hxt, Bool.and_true]; unfold frFits; rw [HSLD.out.2, ← hb2, hb]; simp; omega), HSLD.out.2, ← HSLD.out.1]
                unfold fdata bytesOf
                rw [HSLD.out.2]
              rw [hgo] at hfr hlen
              have HFR := Lib.hid hfr
              have HY := Lib.hid (fun i => hY pre (p, D) _ (HJ.out i) (by simp only [List.length_cons] at hlen; omega) ⟨by show p < _; omega, by show D.size ≤ _; omega⟩)
              clear hfr hlen hgo hY
              refine startIn 18 (by kernel_rfl) (by kernel_rfl) ?_
              simp only [List.replicate_succ, List.replicate_zero]
              refine takeIn (i := 0) (v := .string s) rfl rfl rfl (by kernel_rfl) (by kernel_rfl) (by kernel_rfl) (fun _ _ _ h => h) ⟨Or.inl ⟨rfl, fun _ => rfl⟩, fun _ => rfl⟩ ?_
              simp only [List.set_cons_zero, List.set_cons_succ]
              refine takeIn (i := 1) (v := .string (s.extract 12 16)) rfl rfl rfl (by kernel_rfl) (by kernel_rfl) (by kernel_rfl) (fun _ _ _ h => h) ⟨Or.inl ⟨rfl, by intro w; go_simp⟩, fun _ => rfl⟩ ?_
              simp only [List.set_cons_zero, List.set_cons_succ]
              refine takeIn (i := 4) (v := .string s) rfl rfl rfl (by kernel_rfl) (by kernel_rfl) (by kernel_rfl) (fun _ _ _ h => h) ⟨Or.inl ⟨rfl, fun _ => rfl⟩, fun _ => rfl⟩ ?_
              simp only [List.set_cons_zero, List.set_cons_succ]
              refine takeIn (i := 5) (v := .string (s.extract 0 12)) rfl rfl rfl (by kernel_rfl) (by kernel_rfl) (by kernel_rfl) (fun _ _ _ h => h) ⟨Or.inl ⟨rfl, by intro w; go_simp⟩, fun _ => rfl⟩ ?_
              simp only [List.set_cons_zero, List.set_cons_succ]
              refine takeIn (i := 6) (v := .string D) rfl rfl rfl (by kernel_rfl) (by kernel_rfl) (by kernel_rfl) (fun _ _ _ h => h) ⟨Or.inl ⟨rfl, fun _ => rfl⟩, fun _ => rfl⟩ ?_
              simp only [List.set_cons_zero, List.set_cons_succ]
              refine takeIn (i := 7) (v := .string (s.extract 0 12 ++ D)) rfl rfl rfl (by kernel_rfl) (by kernel_rfl) (by kernel_rfl) (fun _ _ _ h => h) ⟨Or.inl ⟨rfl, by intro w; go_simp⟩, fun _ => rfl⟩ ?_
              simp only [List.set_cons_zero, List.set_cons_succ]
              refine wpAnyIn_ready (rs := [2, 3]) (by kernel_rfl) (by simp) ?_
              refine AllReadyIn.cons (nthL_get rfl) (fun K hK => ?_) (AllReadyIn.cons (nthL_get rfl) (fun K hK => ?_) AllReadyIn.nil)
              · go_simp
                refine ⟨trivial, ?_⟩
                refine callsIn_wide.2 ?_
                refine (HV3.out _).mono ?_
                rintro e w4 ⟨rfl, rfl⟩
                refine hK _ _ ?_
                clear hK K
                simp only [List.setIfInBounds_toArray, List.set_cons_zero, List.set_cons_succ]
                refine wpAnyIn_ready (rs := [3]) (by kernel_rfl) (by simp) ?_
                refine AllReadyIn.cons (nthL_get rfl) (fun K hK => ?_) AllReadyIn.nil
                go_simp
                refine hK _ _ ?_
                clear hK K
                simp only [List.setIfInBounds_toArray, List.set_cons_zero, List.set_cons_succ]
                refine wpAnyIn_ready (rs := [8]) (by kernel_rfl) (by simp) ?_
                refine AllReadyIn.cons (nthL_get rfl) (fun K hK => ?_) AllReadyIn.nil
                go_simp
                refine ⟨trivial, ?_⟩
                refine callsIn_wide.2 ?_
                refine (HCK.out _ (Blk.drewN (n := 1) hH3.tab)).mono ?_
                rintro e w5 ⟨rfl, n5, rfl⟩
                refine hK _ _ ?_
                clear hK K
                simp only [List.setIfInBounds_toArray, List.set_cons_zero, List.set_cons_succ]
                refine takeIn (i := 9) (v := .bool false) rfl rfl rfl (by kernel_rfl) (by kernel_rfl) (by kernel_rfl) (fun _ _ _ h => h) ⟨Or.inl ⟨rfl, by intro w; go_simp⟩, fun _ => rfl⟩ ?_
                simp only [List.set_cons_zero, List.set_cons_succ]
                refine takeIn (i := 10) (v := .bool false) rfl rfl rfl (by kernel_rfl) (by kernel_rfl) (by kernel_rfl) (fun _ _ _ h => h) ⟨Or.inl ⟨rfl, fun _ => rfl⟩, fun _ => rfl⟩ ?_
                simp only [List.set_cons_zero, List.set_cons_succ]
                refine takeIn (i := 11) (v := .func (.yield l) #[] #[]) rfl rfl rfl (by kernel_rfl) (by kernel_rfl) (by kernel_rfl) (fun _ _ _ h => h) ⟨Or.inl ⟨rfl, fun _ => rfl⟩, fun _ => rfl⟩ ?_
                simp only [List.set_cons_zero, List.set_cons_succ]
                refine takeIn (i := 12) (v := .int .i64 (p : Int)) rfl rfl rfl (by kernel_rfl) (by kernel_rfl) (by kernel_rfl) (fun _ _ _ h => h) ⟨Or.inl ⟨rfl, fun _ => rfl⟩, fun _ => rfl⟩ ?_
                simp only [List.set_cons_zero, List.set_cons_succ]
                refine takeIn (i := 13) (v := .string D) rfl rfl rfl (by kernel_rfl) (by kernel_rfl) (by kernel_rfl) (fun _ _ _ h => h) ⟨Or.inl ⟨rfl, fun _ => rfl⟩, fun _ => rfl⟩ ?_
                simp only [List.set_cons_zero, List.set_cons_succ]
                refine takeIn (i := 14) (v := .agg #[.int .i64 (p : Int), .string D]) rfl rfl rfl (by kernel_rfl) (by kernel_rfl) (by kernel_rfl) (fun _ _ _ h => h) ⟨Or.inl ⟨rfl, by intro w; go_simp⟩, fun _ => rfl⟩ ?_
                simp only [List.set_cons_zero, List.set_cons_succ]
                refine wpAnyIn_ready (rs := [15]) (by kernel_rfl) (by simp) ?_
                refine AllReadyIn.cons (nthL_get rfl) (fun K hK => ?_) AllReadyIn.nil
                refine YieldAt.use (HY.out (1 + n5)) fun fn tmps assign body hy hR => ?_
                simp only [encR] at hy
                go_simp
                refine hR.mono ?_
                rintro e W3 (⟨rfl, hJ4, hk4⟩ | ⟨rfl, hJx4⟩)
                · refine hK _ _ ?_
                  clear hK K hy hR
                  simp only [List.setIfInBounds_toArray, List.set_cons_zero, List.set_cons_succ]
                  refine takeIn (i := 16) (v := .bool false) rfl rfl rfl (by kernel_rfl) (by kernel_rfl) (by kernel_rfl) (fun _ _ _ h => h) ⟨Or.inl ⟨rfl, by intro w; go_simp⟩, fun _ => rfl⟩ ?_
                  simp only [List.set_cons_zero, List.set_cons_succ]
                  refine takeIn (i := 17) (v := .bool false) rfl rfl rfl (by kernel_rfl) (by kernel_rfl) (by kernel_rfl) (fun _ _ _ h => h) ⟨Or.inl ⟨rfl, by intro w; go_simp⟩, fun _ => rfl⟩ ?_
                  simp only [List.set_cons_zero, List.set_cons_succ]
                  refine wpAnyIn_done (by kernel_rfl) ?_ _
                  gi_wp2
                  go_roundw
                  case rel =>
                    refine ⟨pre ++ [(p, D)], p + 16 + sz, k + 1, by go_num, by go_num, by rw [HFR.out]; simp, hJ4, (hH3.below (below_drewN (Below.refl _ _))).kept hk4, by simp; omega, by simp; omega, .inl (by omega)⟩
                  case measure => simp [intOf]; omega
                · refine hK _ _ ?_
                  clear hK K hy hR
                  simp only [List.setIfInBounds_toArray, List.set_cons_zero, List.set_cons_succ]
                  refine takeIn (i := 16) (v := .bool true) rfl rfl rfl (by kernel_rfl) (by kernel_rfl) (by kernel_rfl) (fun _ _ _ h => h) ⟨Or.inl ⟨rfl, by intro w; go_simp⟩, fun _ => rfl⟩ ?_
                  simp only [List.set_cons_zero, List.set_cons_succ]
                  refine takeIn (i := 17) (v := .bool true) rfl rfl rfl (by kernel_rfl) (by kernel_rfl) (by kernel_rfl) (fun _ _ _ h => h) ⟨Or.inl ⟨rfl, by intro w; go_simp⟩, fun _ => rfl⟩ ?_
                  simp only [List.set_cons_zero, List.set_cons_succ]
                  refine wpAnyIn_done (by kernel_rfl) ?_ _
                  gi_wp2
                  refine bodyPost_ret (results_none rfl _ _ _) rfl ?_
                  exact ⟨⟨_, rfl⟩, .inr ⟨_, List.prefix_refl _, hJx4⟩⟩
              · go_simp
                refine hK _ _ ?_
                clear hK K
                simp only [List.setIfInBounds_toArray, List.set_cons_zero, List.set_cons_succ]
                refine wpAnyIn_ready (rs := [2]) (by kernel_rfl) (by simp) ?_
                refine AllReadyIn.cons (nthL_get rfl) (fun K hK => ?_) AllReadyIn.nil
                go_simp
                refine ⟨trivial, ?_⟩
                refine callsIn_wide.2 ?_
                refine (HV3.out _).mono ?_
                rintro e w4 ⟨rfl, rfl⟩
                refine hK _ _ ?_
                clear hK K
                simp only [List.setIfInBounds_toArray, List.set_cons_zero, List.set_cons_succ]
                refine wpAnyIn_ready (rs := [8]) (by kernel_rfl) (by simp) ?_
                refine AllReadyIn.cons (nthL_get rfl) (fun K hK => ?_) AllReadyIn.nil
                go_simp
                refine ⟨trivial, ?_⟩
                refine callsIn_wide.2 ?_
                refine (HCK.out _ (Blk.drewN (n := 1) hH3.tab)).mono ?_
                rintro e w5 ⟨rfl, n5, rfl⟩
                refine hK _ _ ?_
                clear hK K
                simp only [List.setIfInBounds_toArray, List.set_cons_zero, List.set_cons_succ]
                refine takeIn (i := 9) (v := .bool false) rfl rfl rfl (by kernel_rfl) (by kernel_rfl) (by kernel_rfl) (fun _ _ _ h => h) ⟨Or.inl ⟨rfl, by intro w; go_simp⟩, fun _ => rfl⟩ ?_
                simp only [List.set_cons_zero, List.set_cons_succ]
                refine takeIn (i := 10) (v := .bool false) rfl rfl rfl (by kernel_rfl) (by kernel_rfl) (by kernel_rfl) (fun _ _ _ h => h) ⟨Or.inl ⟨rfl, fun _ => rfl⟩, fun _ => rfl⟩ ?_
                simp only [List.set_cons_zero, List.set_cons_succ]
                refine takeIn (i := 11) (v := .func (.yield l) #[] #[]) rfl rfl rfl (by kernel_rfl) (by kernel_rfl) (by kernel_rfl) (fun _ _ _ h => h) ⟨Or.inl ⟨rfl, fun _ => rfl⟩, fun _ => rfl⟩ ?_
                simp only [List.set_cons_zero, List.set_cons_succ]
                refine takeIn (i := 12) (v := .int .i64 (p : Int)) rfl rfl rfl (by kernel_rfl) (by kernel_rfl) (by kernel_rfl) (fun _ _ _ h => h) ⟨Or.inl ⟨rfl, fun _ => rfl⟩, fun _ => rfl⟩ ?_
                simp only [List.set_cons_zero, List.set_cons_succ]
                refine takeIn (i := 13) (v := .string D) rfl rfl rfl (by kernel_rfl) (by kernel_rfl) (by kernel_rfl) (fun _ _ _ h => h) ⟨Or.inl ⟨rfl, fun _ => rfl⟩, fun _ => rfl⟩ ?_
                simp only [List.set_cons_zero, List.set_cons_succ]
                refine takeIn (i := 14) (v := .agg #[.int .i64 (p : Int), .string D]) rfl rfl rfl (by kernel_rfl) (by kernel_rfl) (by kernel_rfl) (fun _ _ _ h => h) ⟨Or.inl ⟨rfl, by intro w; go_simp⟩, fun _ => rfl⟩ ?_
                simp only [List.set_cons_zero, List.set_cons_succ]
                refine wpAnyIn_ready (rs := [15]) (by kernel_rfl) (by simp) ?_
                refine AllReadyIn.cons (nthL_get rfl) (fun K hK => ?_) AllReadyIn.nil
                refine YieldAt.use (HY.out (1 + n5)) fun fn tmps assign body hy hR => ?_
                simp only [encR] at hy
                go_simp
                refine hR.mono ?_
                rintro e W3 (⟨rfl, hJ4, hk4⟩ | ⟨rfl, hJx4⟩)
                · refine hK _ _ ?_
                  clear hK K hy hR
                  simp only [List.setIfInBounds_toArray, List.set_cons_zero, List.set_cons_succ]
                  refine takeIn (i := 16) (v := .bool false) rfl rfl rfl (by kernel_rfl) (by kernel_rfl) (by kernel_rfl) (fun _ _ _ h => h) ⟨Or.inl ⟨rfl, by intro w; go_simp⟩, fun _ => rfl⟩ ?_
                  simp only [List.set_cons_zero, List.set_cons_succ]
                  refine takeIn (i := 17) (v := .bool false) rfl rfl rfl (by kernel_rfl) (by kernel_rfl) (by kernel_rfl) (fun _ _ _ h => h) ⟨Or.inl ⟨rfl, by intro w; go_simp⟩, fun _ => rfl⟩ ?_
                  simp only [List.set_cons_zero, List.set_cons_succ]
                  refine wpAnyIn_done (by kernel_rfl) ?_ _
                  gi_wp2
                  go_roundw
                  case rel =>
                    refine ⟨pre ++ [(p, D)], p + 16 + sz, k + 1, by go_num, by go_num, by rw [HFR.out]; simp, hJ4, (hH3.below (below_drewN (Below.refl _ _))).kept hk4, by simp; omega, by simp; omega, .inl (by omega)⟩
                  case measure => simp [intOf]; omega
                · refine hK _ _ ?_
                  clear hK K hy hR
                  simp only [List.setIfInBounds_toArray, List.set_cons_zero, List.set_cons_succ]
                  refine takeIn (i := 16) (v := .bool true) rfl rfl rfl (by kernel_rfl) (by kernel_rfl) (by kernel_rfl) (fun _ _ _ h => h) ⟨Or.inl ⟨rfl, by intro w; go_simp⟩, fun _ => rfl⟩ ?_
                  simp only [List.set_cons_zero, List.set_cons_succ]
                  refine takeIn (i := 17) (v := .bool true) rfl rfl rfl (by kernel_rfl) (by kernel_rfl) (by kernel_rfl) (fun _ _ _ h => h) ⟨Or.inl ⟨rfl, by intro w; go_simp⟩, fun _ => rfl⟩ ?_
                  simp only [List.set_cons_zero, List.set_cons_succ]
                  refine wpAnyIn_done (by kernel_rfl) ?_ _
                  gi_wp2
                  refine bodyPost_ret (results_none rfl _ _ _) rfl ?_
                  exact ⟨⟨_, rfl⟩, .inr ⟨_, List.prefix_refl _, hJx4⟩⟩
            · have e3 : ((x1 : Int) != (x2 : Int)) = true := by rw [bne_iff_ne]; omega
              have hxf : (x1 == x2) = false := by rw [beq_eq_false_iff_ne]; exact hxx
              have hstop : fr st.area H.en p k = [] := fr_stop (by rw [HSUM.out, hxf, Bool.and_false])
              rw [hstop, List.append_nil] at hfr
              have HF := Lib.hid hfr
              clear hfr hlen hstop hY
              refine startIn 18 (by kernel_rfl) (by kernel_rfl) ?_
              simp only [List.replicate_succ, List.replicate_zero]
              refine takeIn (i := 0) (v := .string s) rfl rfl rfl (by kernel_rfl) (by kernel_rfl) (by kernel_rfl) (fun _ _ _ h => h) ⟨Or.inl ⟨rfl, fun _ => rfl⟩, fun _ => rfl⟩ ?_
              simp only [List.set_cons_zero, List.set_cons_succ]
              refine takeIn (i := 1) (v := .string (s.extract 12 16)) rfl rfl rfl (by kernel_rfl) (by kernel_rfl) (by kernel_rfl) (fun _ _ _ h => h) ⟨Or.inl ⟨rfl, by intro w; go_simp⟩, fun _ => rfl⟩ ?_
              simp only [List.set_cons_zero, List.set_cons_succ]
              refine takeIn (i := 4) (v := .string s) rfl rfl rfl (by kernel_rfl) (by kernel_rfl) (by kernel_rfl) (fun _ _ _ h => h) ⟨Or.inl ⟨rfl, fun _ => rfl⟩, fun _ => rfl⟩ ?_
              simp only [List.set_cons_zero, List.set_cons_succ]
              refine takeIn (i := 5) (v := .string (s.extract 0 12)) rfl rfl rfl (by kernel_rfl) (by kernel_rfl) (by kernel_rfl) (fun _ _ _ h => h) ⟨Or.inl ⟨rfl, by intro w; go_simp⟩, fun _ => rfl⟩ ?_
              simp only [List.set_cons_zero, List.set_cons_succ]
              refine takeIn (i := 6) (v := .string D) rfl rfl rfl (by kernel_rfl) (by kernel_rfl) (by kernel_rfl) (fun _ _ _ h => h) ⟨Or.inl ⟨rfl, fun _ => rfl⟩, fun _ => rfl⟩ ?_
              simp only [List.set_cons_zero, List.set_cons_succ]
              refine takeIn (i := 7) (v := .string (s.extract 0 12 ++ D)) rfl rfl rfl (by kernel_rfl) (by kernel_rfl) (by kernel_rfl) (fun _ _ _ h => h) ⟨Or.inl ⟨rfl, by intro w; go_simp⟩, fun _ => rfl⟩ ?_
              simp only [List.set_cons_zero, List.set_cons_succ]
              refine wpAnyIn_ready (rs := [2, 3]) (by kernel_rfl) (by simp) ?_
              refine AllReadyIn.cons (nthL_get rfl) (fun K hK => ?_) (AllReadyIn.cons (nthL_get rfl) (fun K hK => ?_) AllReadyIn.nil)
              · go_simp
                refine ⟨trivial, ?_⟩
                refine callsIn_wide.2 ?_
                refine (HV3.out _).mono ?_
                rintro e w4 ⟨rfl, rfl⟩
                refine hK _ _ ?_
                clear hK K
                simp only [List.setIfInBounds_toArray, List.set_cons_zero, List.set_cons_succ]
                refine wpAnyIn_ready (rs := [3]) (by kernel_rfl) (by simp) ?_
                refine AllReadyIn.cons (nthL_get rfl) (fun K hK => ?_) AllReadyIn.nil
                go_simp
                refine hK _ _ ?_
                clear hK K
                simp only [List.setIfInBounds_toArray, List.set_cons_zero, List.set_cons_succ]
                refine wpAnyIn_ready (rs := [8]) (by kernel_rfl) (by simp) ?_
                refine AllReadyIn.cons (nthL_get rfl) (fun K hK => ?_) AllReadyIn.nil
                go_simp
                refine ⟨trivial, ?_⟩
                refine callsIn_wide.2 ?_
                refine (HCK.out _ (Blk.drewN (n := 1) hH3.tab)).mono ?_
                rintro e w5 ⟨rfl, n5, rfl⟩
                refine hK _ _ ?_
                clear hK K
                simp only [List.setIfInBounds_toArray, List.set_cons_zero, List.set_cons_succ]
                refine takeIn (i := 9) (v := .bool true) rfl rfl rfl (by kernel_rfl) (by kernel_rfl) (by kernel_rfl) (fun _ _ _ h => h) ⟨Or.inl ⟨rfl, by intro w; go_simp⟩, fun _ => rfl⟩ ?_
                simp only [List.set_cons_zero, List.set_cons_succ]
                refine takeIn (i := 10) (v := .bool true) rfl rfl rfl (by kernel_rfl) (by kernel_rfl) (by kernel_rfl) (fun _ _ _ h => h) ⟨Or.inl ⟨rfl, fun _ => rfl⟩, fun _ => rfl⟩ ?_
                simp only [List.set_cons_zero, List.set_cons_succ]
                refine takeIn (i := 11) (v := undef) rfl rfl rfl (by kernel_rfl) (by kernel_rfl) (by kernel_rfl) (fun _ _ _ h => h) ⟨Or.inr ⟨rfl, rfl⟩, fun _ => rfl⟩ ?_
                simp only [List.set_cons_zero, List.set_cons_succ]
                refine takeIn (i := 12) (v := undef) rfl rfl rfl (by kernel_rfl) (by kernel_rfl) (by kernel_rfl) (fun _ _ _ h => h) ⟨Or.inr ⟨rfl, rfl⟩, fun _ => rfl⟩ ?_
                simp only [List.set_cons_zero, List.set_cons_succ]
                refine takeIn (i := 13) (v := undef) rfl rfl rfl (by kernel_rfl) (by kernel_rfl) (by kernel_rfl) (fun _ _ _ h => h) ⟨Or.inr ⟨rfl, rfl⟩, fun _ => rfl⟩ ?_
                simp only [List.set_cons_zero, List.set_cons_succ]
                refine takeIn (i := 14) (v := undef) rfl rfl rfl (by kernel_rfl) (by kernel_rfl) (by kernel_rfl) (fun _ _ _ h => h) ⟨Or.inr ⟨rfl, rfl⟩, fun _ => rfl⟩ ?_
                simp only [List.set_cons_zero, List.set_cons_succ]
                refine takeIn (i := 15) (v := undef) rfl rfl rfl (by kernel_rfl) (by kernel_rfl) (by kernel_rfl) (fun _ _ _ h => h) ⟨Or.inr ⟨rfl, rfl⟩, fun _ => rfl⟩ ?_
                simp only [List.set_cons_zero, List.set_cons_succ]
                refine takeIn (i := 16) (v := undef) rfl rfl rfl (by kernel_rfl) (by kernel_rfl) (by kernel_rfl) (fun _ _ _ h => h) ⟨Or.inr ⟨rfl, rfl⟩, fun _ => rfl⟩ ?_
                simp only [List.set_cons_zero, List.set_cons_succ]
                refine takeIn (i := 17) (v := .bool true) rfl rfl rfl (by kernel_rfl) (by kernel_rfl) (by kernel_rfl) (fun _ _ _ h => h) ⟨Or.inl ⟨rfl, by intro w; go_simp⟩, fun _ => rfl⟩ ?_
                simp only [List.set_cons_zero, List.set_cons_succ]
                refine wpAnyIn_done (by kernel_rfl) ?_ _
                gi_wp2
                refine bodyPost_ret (results_none rfl _ _ _) rfl ?_
                exact ⟨⟨_, rfl⟩, .inl (by first | (rw [HF.out]; exact HJ.out _) | (rw [HF.out]; exact ⟨_, rfl, HJ.out _⟩) | (simp only [World.drewN_drewN]; rw [HF.out]; exact HJ.out _) | (simp only [World.drewN_drewN]; rw [HF.out]; exact ⟨_, rfl, HJ.out _⟩))⟩
              · go_simp
                refine hK _ _ ?_
                clear hK K
                simp only [List.setIfInBounds_toArray, List.set_cons_zero, List.set_cons_succ]
                refine wpAnyIn_ready (rs := [2]) (by kernel_rfl) (by simp) ?_
                refine AllReadyIn.cons (nthL_get rfl) (fun K hK => ?_) AllReadyIn.nil
                go_simp
                refine ⟨trivial, ?_⟩
                refine callsIn_wide.2 ?_
                refine (HV3.out _).mono ?_
                rintro e w4 ⟨rfl, rfl⟩
                refine hK _ _ ?_
                clear hK K
                simp only [List.setIfInBounds_toArray, List.set_cons_zero, List.set_cons_succ]
                refine wpAnyIn_ready (rs := [8]) (by kernel_rfl) (by simp) ?_
                refine AllReadyIn.cons (nthL_get rfl) (fun K hK => ?_) AllReadyIn.nil
                go_simp
                refine ⟨trivial, ?_⟩
                refine callsIn_wide.2 ?_
                refine (HCK.out _ (Blk.drewN (n := 1) hH3.tab)).mono ?_
                rintro e w5 ⟨rfl, n5, rfl⟩
                refine hK _ _ ?_
                clear hK K
                simp only [List.setIfInBounds_toArray, List.set_cons_zero, List.set_cons_succ]
                refine takeIn (i := 9) (v := .bool true) rfl rfl rfl (by kernel_rfl) (by kernel_rfl) (by kernel_rfl) (fun _ _ _ h => h) ⟨Or.inl ⟨rfl, by intro w; go_simp⟩, fun _ => rfl⟩ ?_
                simp only [List.set_cons_zero, List.set_cons_succ]
                refine takeIn (i := 10) (v := .bool true) rfl rfl rfl (by kernel_rfl) (by kernel_rfl) (by kernel_rfl) (fun _ _ _ h => h) ⟨Or.inl ⟨rfl, fun _ => rfl⟩, fun _ => rfl⟩ ?_
                simp only [List.set_cons_zero, List.set_cons_succ]
                refine takeIn (i := 11) (v := undef) rfl rfl rfl (by kernel_rfl) (by kernel_rfl) (by kernel_rfl) (fun _ _ _ h => h) ⟨Or.inr ⟨rfl, rfl⟩, fun _ => rfl⟩ ?_
                simp only [List.set_cons_zero, List.set_cons_succ]
                refine takeIn (i := 12) (v := undef) rfl rfl rfl (by kernel_rfl) (by kernel_rfl) (by kernel_rfl) (fun _ _ _ h => h) ⟨Or.inr ⟨rfl, rfl⟩, fun _ => rfl⟩ ?_
                simp only [List.set_cons_zero, List.set_cons_succ]
                refine takeIn (i := 13) (v := undef) rfl rfl rfl (by kernel_rfl) (by kernel_rfl) (by kernel_rfl) (fun _ _ _ h => h) ⟨Or.inr ⟨rfl, rfl⟩, fun _ => rfl⟩ ?_
                simp only [List.set_cons_zero, List.set_cons_succ]
                refine takeIn (i := 14) (v := undef) rfl rfl rfl (by kernel_rfl) (by kernel_rfl) (by kernel_rfl) (fun _ _ _ h => h) ⟨Or.inr ⟨rfl, rfl⟩, fun _ => rfl⟩ ?_
                simp only [List.set_cons_zero, List.set_cons_succ]
                refine takeIn (i := 15) (v := undef) rfl rfl rfl (by kernel_rfl) (by kernel_rfl) (by kernel_rfl) (fun _ _ _ h => h) ⟨Or.inr ⟨rfl, rfl⟩, fun _ => rfl⟩ ?_
                simp only [List.set_cons_zero, List.set_cons_succ]
                refine takeIn (i := 16) (v := undef) rfl rfl rfl (by kernel_rfl) (by kernel_rfl) (by kernel_rfl) (fun _ _ _ h => h) ⟨Or.inr ⟨rfl, rfl⟩, fun _ => rfl⟩ ?_
                simp only [List.set_cons_zero, List.set_cons_succ]
                refine takeIn (i := 17) (v := .bool true) rfl rfl rfl (by kernel_rfl) (by kernel_rfl) (by kernel_rfl) (fun _ _ _ h => h) ⟨Or.inl ⟨rfl, by intro w; go_simp⟩, fun _ => rfl⟩ ?_
                simp only [List.set_cons_zero, List.set_cons_succ]
                refine wpAnyIn_done (by kernel_rfl) ?_ _
                gi_wp2
                refine bodyPost_ret (results_none rfl _ _ _) rfl ?_
                exact ⟨⟨_, rfl⟩, .inl (by first | (rw [HF.out]; exact HJ.out _) | (rw [HF.out]; exact ⟨_, rfl, HJ.out _⟩) | (simp only [World.drewN_drewN]; rw [HF.out]; exact HJ.out _) | (simp only [World.drewN_drewN]; rw [HF.out]; exact ⟨_, rfl, HJ.out _⟩))⟩
end Go.Proofs.YtfdnpchbbngpjaaGreat
