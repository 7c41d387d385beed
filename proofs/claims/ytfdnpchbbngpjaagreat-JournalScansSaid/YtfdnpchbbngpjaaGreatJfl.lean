/- The sectors of a ring are written to the device. -/
import Derived.Test.YtfdnpchbbngpjaaGreatJpu
import Derived.Deep.RegionWith
namespace Go.Proofs.YtfdnpchbbngpjaaGreat
attribute [local go_sem ↓] Go.wp_at_zero Go.wp_at_succ
open Go.RowKit Go.Maps

theorem flushL_ok {st : VS} {p : Nat × ByteArray} {r : List (Nat × ByteArray)} (h : (st.write (p.1 : Int) p.2).1 = 0) : st.flushL (p :: r) = (st.write (p.1 : Int) p.2).2.flushL r := by
  have e : st.writes (p :: r) = (st.write (p.1 : Int) p.2).2.writes r := by show (if _ then _ else _) = _; rw [if_neg (by rw [h]; decide)]
  unfold VS.flushL
  rw [e]
theorem flushL_no {st : VS} {p : Nat × ByteArray} {r : List (Nat × ByteArray)} (h : (st.write (p.1 : Int) p.2).1 ≠ 0) : st.flushL (p :: r) = st.write (p.1 : Int) p.2 := by
  have e : st.writes (p :: r) = st.write (p.1 : Int) p.2 := by show (if _ then _ else _) = _; rw [if_pos h]
  unfold VS.flushL
  rw [e, if_pos h]
theorem flushL_nil (st : VS) : st.flushL [] = st.barrier := rfl
theorem ringL_drop {os : List (Nat × Nat)} {Al : List UInt8} {k : Nat} (hk : k < os.length) : (ringL os Al).drop k = (os[k].1, bytesOf (sec Al (os[k].1 - 2))) :: (ringL os Al).drop (k + 1) := by
  have : k < (ringL os Al).length := by unfold ringL; rw [List.length_map]; exact hk
  rw [List.drop_eq_getElem_cons this]
  congr 1
  exact List.getElem_map _
theorem write_len (st : VS) (s : Int) (d : ByteArray) : (st.write s d).2.dur.length = st.dur.length := by
  unfold VS.write
  split
  · rfl
  · split
    · rfl
    · split
      · rfl
      · split
        · rfl
        · simp only
          rw [({ st with pend := st.pend ++ [(s.toNat, d)] } : VS).tick_dur.1]
/-- a step behind a step -/
theorem Step.then {F : List Nat} {w w1 w2 : World} {vb : Nat} {st2 : VS} {F1 : List Nat} (hf : ∀ i, i ∈ F1 → i ∈ F ∨ w.heap.size ≤ i) (ht : Turn F w w1) (h2 : Step F1 w1 w2 vb st2) : Step F w w2 vb st2 := by
  obtain ⟨F2, m1, m2, m3⟩ := h2
  refine ⟨F2, m1, ht.trans m2 hf, fun i hi => ?_⟩
  rcases m3 i hi with e | e
  · exact hf i e
  · exact .inr (Nat.le_trans ht.size e)
theorem row_ptr {w : World} {base e size n cap : Nat} {ao : Option Addr} {xs : List Value} (h : w.ownsRow base e size (.slice ao n cap) n xs) (hn : 0 < n) : ∃ g, ao = some ⟨g, 0, none⟩ := by
  rcases h.2 with ⟨h1, h2⟩ | ⟨g, cap', cur, h1, _⟩
  · omega
  · injection h1 with h1
    exact ⟨g, h1⟩
theorem B256.conv {w : World} {g : Nat} {l : List UInt8} (h : B256 w g l) (cap : Nat) : (convert 31 9 (.slice (some ⟨g, 0, none⟩) 256 cap)).run Tryz.prog w = .ok (.string (bytesOf l)) w := by
  have hl : l.length = 256 := by obtain ⟨_, _, _, _, _, h⟩ := h; exact h
  have := run_convert_bytes_back (P := Tryz.prog) w 31 9 5 ⟨g, 0, none⟩ cap l Tryz.underlying31 Tryz.underlying5 Tryz.underlying9 (fun j hj => by
    have e0 : ((⟨g, 0, none⟩ : Addr).add j) = ⟨g, j, none⟩ := by
      unfold Addr.add
      split
      · rename_i h0; subst h0; rfl
      · simp
    rw [e0, h.cell (by omega), List.getD_eq_getElem?_getD, List.getElem?_eq_getElem hj]
    rfl)
  rw [hl] at this
  exact this
set_option maxRecDepth 100000 in
set_option maxHeartbeats 4000000 in
theorem flush_any {w : World} {B rb mb vb m : Nat} {ov : Value} {os : List (Nat × Nat)} {A0 Al : List UInt8} (h : Rng w B rb mb vb ov os A0 Al m) {st : VS} {F : List Nat} (hV : VolF w vb st F) (hF : ∀ i, i ∈ F → i < B) (hm2 : m ≤ 64) :
    Calls Tryz.prog 50 #[.pointer (some ⟨rb, 0, none⟩)] w fun e w' => e = .returned (.int .i64 ((st.flushL (ringL os Al)).1 : Int)) ∧ Step F w w' vb (st.flushL (ringL os Al)).2 := by
  obtain ⟨ao, cap0, hov⟩ := row_shape h.ord
  subst hov
  have c0 := h.blk.cell 0
  have c1 := h.blk.cell 1
  have c3 := h.blk.cell 3
  simp at c0 c1 c3
  have hfew := h.few
  go_enter Tryz.func50, Tryz.ntmps50
  go_wp2_with fail
  clear c0 c1 c3
  go_loopw [21] (fun i wr_ => ∃ (k : Nat) (st' : VS) (F' : List Nat), k ≤ os.length ∧ i = .int .i64 (k : Int) ∧ VolF wr_ vb st' F' ∧ Turn F w wr_ ∧ (∀ i, i ∈ F' → i ∈ F ∨ w.heap.size ≤ i) ∧ st.flushL (ringL os Al) = st'.flushL ((ringL os Al).drop k)) (fun i _ => os.length - (intOf i).toNat)
  case atStart => exact ⟨0, st, F, Nat.zero_le _, rfl, hV, Turn.refl _ _, fun i hi => .inl hi, rfl⟩
  case round =>
    obtain ⟨k, st', F', hk, rfl, hV', hT, hf, hfl⟩ := hrel
    have hFR : ∀ i, i ∈ rfoot rb mb (.slice ao os.length cap0) os → i ∉ F := fun i hi hi2 => by have := (h.lt i hi).1; have := hF i hi2; omega
    have hR := h.turn hT hFR
    have c0 := hR.blk.cell 0
    have c1 := hR.blk.cell 1
    have c2 := hR.blk.cell 2
    have c3 := hR.blk.cell 3
    simp at c0 c1 c2 c3
    by_cases hke : k = os.length
    · subst hke
      rw [List.drop_of_length_le (by unfold ringL; rw [List.length_map]; exact Nat.le_refl _), flushL_nil] at hfl
      have HFL := Lib.hid hfl
      have HST := Lib.hid (And.intro hT hf)
      clear hfl hT hf hFR hR
      go_wp2_with (first
        | (go_at_call 76; refine (barrier_any hV').mono ?_; rintro e w3 ⟨rfl, hst3⟩))
      go_ret
      rw [HFL.out]
      exact ⟨rfl, Step.then HST.out.2 HST.out.1 hst3⟩
    · have hlt : k < os.length := by omega
      obtain ⟨p, hp⟩ : ∃ p, os[k] = p := ⟨_, rfl⟩
      have hpm : p ∈ os := by rw [← hp]; exact List.getElem_mem _
      obtain ⟨pk, pg⟩ := p
      obtain ⟨_, hb, hp2, hp3⟩ := hR.byt _ hpm
      simp only at hb hp2 hp3
      obtain ⟨g0, rfl⟩ := row_ptr h.ord (by omega)
      have hcell := hR.ord.cellAt k (by omega)
      rw [List.getElem?_map, List.getElem?_eq_getElem hlt, hp] at hcell
      simp only [Option.map_some] at hcell
      have hRd := hR.below (below_drewN (n := 1) (Below.refl _ _))
      obtain ⟨cap, hcap, hrun⟩ := hRd.get hpm (by omega)
      have hrun1 : (Instr.lookup 90 (.map (some mb)) (.int .i64 (pk : Int)) false).run Tryz.prog wr.drew = .ok (.slice (some ⟨pg, 0, none⟩) 256 cap) wr.drew := hrun
      have hconv : (convert 31 9 (.slice (some ⟨pg, 0, none⟩) 256 cap)).run Tryz.prog wr.drew = .ok (.string (bytesOf (sec Al (pk - 2)))) wr.drew := B256.conv (hb.turn (G := []) (Turn.refl _ _).drew (by simp)) cap
      obtain ⟨D, hD⟩ : ∃ D, bytesOf (sec Al (pk - 2)) = D := ⟨_, rfl⟩
      obtain ⟨x, hx⟩ : ∃ x, st'.write (pk : Int) D = x := ⟨_, rfl⟩
      have hfl2 : st.flushL (ringL os Al) = if x.1 = 0 then x.2.flushL ((ringL os Al).drop (k + 1)) else x := by
        rw [hfl, ringL_drop hlt]
        simp only [hp]
        rw [hD]
        split
        · rename_i hz
          rw [flushL_ok (by rw [hx]; exact hz)]
          simp only [hx]
        · rename_i hz
          rw [flushL_no (by rw [hx]; exact hz)]
          exact hx
      rw [hD] at hconv
      have HFL := Lib.hid hfl2
      have HST := Lib.hid (And.intro hT hf)
      have HV := Lib.hid hV'.drew
      clear hfl hfl2 hT hf hFR hR hRd hrun hD hb hpm hV'
      go_wp2_with fail
      go_region_with (first
        | (go_at_call 38; refine (write_any (pk : Int) D HV.out).mono ?_; rw [hx]; rintro e w2 ⟨rfl, F2, hv2, ht2, hf2⟩))
      all_goals
        have HST2 := Lib.hid (show VolF w2 vb x.2 F2 ∧ Turn F w w2 ∧ ∀ i, i ∈ F2 → i ∈ F ∨ w.heap.size ≤ i from ⟨hv2, HST.out.1.trans (Turn.mono (F := F') (G := F') ⟨ht2.os, ht2.tape, ht2.output, ht2.size, ht2.block⟩ (fun _ h => h)) HST.out.2, fun i hi => by
          rcases hf2 i hi with e | e
          · exact HST.out.2 i e
          · exact .inr (Nat.le_trans HST.out.1.size e)⟩)
        clear hv2 ht2 hf2
        by_cases hz : x.1 = 0
        · have HF2 := Lib.hid (HFL.out.trans (if_pos hz))
          have e5 : ((k : Int).tmod 1024 == 1023) = false := by rw [beq_eq_false_iff_ne, Int.tmod_eq_emod_of_nonneg (by omega)]; omega
          rw [hz]
          clear c0 c1 c2 c3 hcell hrun1 hconv
          go_wp2_with fail
          go_roundw
          case rel => exact ⟨k + 1, x.2, F2, by omega, by go_num, HST2.out.1, HST2.out.2.1, HST2.out.2.2, HF2.out⟩
          case measure => simp [intOf]; omega
        · have HF2 := Lib.hid (HFL.out.trans (if_neg hz))
          have e5 : ((x.1 : Int) != 0) = true := by rw [bne_iff_ne]; omega
          clear c0 c1 c2 c3 hcell hrun1 hconv
          go_wp2_with fail
          go_ret
          rw [HF2.out]
          exact ⟨rfl, F2, HST2.out⟩
end Go.Proofs.YtfdnpchbbngpjaaGreat
