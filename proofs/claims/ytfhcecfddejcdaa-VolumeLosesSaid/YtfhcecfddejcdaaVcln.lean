/- Clone: an equal device in memory of its own. -/
import Derived.Test.YtfhcecfddejcdaaVlsu
import Derived.Deep.RegionHeld3
import Derived.Deep.RegionLaw
namespace Go.Proofs.Ytfhcecfddejcdaa
attribute [local go_sem ↓] Go.wp_at_zero Go.wp_at_succ
open Go.RowKit Go.Maps

theorem row_form {w : World} {b : Nat} {e : TypeId} {size n : Nat} {v : Value} {xs : List Value} (h : w.ownsRow b e size v n xs) : ∃ ao cap, v = .slice ao n cap := by
  rcases h.2 with ⟨h1, h2⟩ | ⟨g, cap, cur, h1, _⟩
  · exact ⟨none, 0, by rw [h1, h2]⟩
  · exact ⟨_, _, h1⟩
theorem row_down {w : World} {b b' : Nat} {e : TypeId} {size n : Nat} {v : Value} {xs : List Value} (h : w.ownsRow b e size v n xs) (hb : b' ≤ b) : w.ownsRow b' e size v n xs := by
  obtain ⟨h1, h2⟩ := h
  refine ⟨h1, ?_⟩
  rcases h2 with h2 | ⟨g, cap, cur, rfl, hg, r⟩
  · exact .inl h2
  · exact .inr ⟨g, cap, cur, rfl, Nat.le_trans hb hg, r⟩
theorem sliceClone_any {w : World} {v : Value} {ps : List (Nat × ByteArray)} (h : w.ownsRow 0 64 2 v ps.length (pcells ps)) (hn : ps.length ≤ 4096) :
    Calls Try.prog 41 #[v] w fun e w' => ∃ v', e = .returned v' ∧ w'.ownsRow w.heap.size 64 2 v' ps.length (pcells ps) ∧ Below w.heap.size w w' := by
  obtain ⟨i0, hi0, hz0, hz1, hz2⟩ := info_parts write_info
  have hlen := pcells_len ps
  rcases h.2 with ⟨rfl, h0⟩ | ⟨g, cap, cur, rfl, _, hh, hr⟩
  · refine (AnyE.slices_Clone_nil Try.cloneW 0 0 w).mono fun e w' ⟨he, hw⟩ => ?_
    subst hw
    have : ps = [] := List.length_eq_zero_iff.1 h0
    subst this
    exact ⟨_, he, World.ownsRow_nil _ _ _ _, Below.refl _ _⟩
  · refine (AnyE.slices_Clone Try.cloneW i0 _ 2 24 hi0 hz0 hz1 hz2 rfl (by omega) Try.sizeOf64 g 0 ps.length cap (pcells ps) w hlen (by unfold maxLen; omega) (by omega) ?_ ?_).mono ?_
    · intro j u hu
      rw [Nat.zero_add]
      have := h.cells rfl j u hu
      rwa [Go.WideShapes.add_plain, Nat.zero_add] at this
    · intro u hu
      unfold pcells at hu
      simp at hu
      obtain ⟨a, b, _, rfl | rfl⟩ := hu <;> rfl
    · rintro e w' ⟨v', he, ho, _, hb⟩
      exact ⟨v', he, ho, hb⟩
set_option maxRecDepth 100000 in
set_option maxHeartbeats 1000000 in
theorem clone_any {w : World} {vb : Nat} {st : VS} {mb : Nat} {pv : Value} (h : Vol w vb st mb pv) :
    Calls Try.prog 26 #[.pointer (some ⟨vb, 0, none⟩)] w fun e w' => ∃ vb' F', e = .returned (.pointer (some ⟨vb', 0, none⟩)) ∧ Own w w' vb' st F' := by
  have c0 := h.blk.cell 0
  have c1 := h.blk.cell 1
  have c2 := h.blk.cell 2
  have c3 := h.blk.cell 3
  have c4 := h.blk.cell 4
  have c5 := h.blk.cell 5
  have lt := h.blk.lt
  simp at c0 c1 c2 c3 c4 c5
  have y1 : ∀ o, (w.alloc o).cell? ⟨vb, 1, none⟩ = some (.map (some mb)) := fun o => (World.cell?_of_block (a := ⟨vb, 1, none⟩) (Below.heap_alloc _ _ vb lt)).trans c1
  have y2 : ∀ o, (w.alloc o).cell? ⟨vb, 2, none⟩ = some pv := fun o => (World.cell?_of_block (a := ⟨vb, 2, none⟩) (Below.heap_alloc _ _ vb lt)).trans c2
  obtain ⟨ao, cap0, hpv⟩ : ∃ ao cap, pv = .slice ao st.pend.length cap := by
    rcases h.row.2 with ⟨h1, h2⟩ | ⟨g, cap, cur, h1, _⟩
    · exact ⟨none, 0, by rw [h1, h2]⟩
    · exact ⟨_, _, h1⟩
  subst hpv
  have H := Lib.hid h
  clear h
  go_enter Try.func26, Try.ntmps26
  go_wp2_with fail
  have hA : Below w.heap.size w (w.alloc (.cells #[.int .i64 (st.dur.length : Int), .map (some mb), .slice ao st.pend.length cap0, .bool st.lim.isSome, .int .i64 ((st.lim.getD 0 : Nat) : Int), .bool st.down] 60)) := (Below.refl _ w).alloc (Nat.le_refl _) _
  have hbk := Blk.new w 60 #[.int .i64 (st.dur.length : Int), .map (some mb), .slice ao st.pend.length cap0, .bool st.lim.isSome, .int .i64 ((st.lim.getD 0 : Nat) : Int), .bool st.down]
  have hV := H.out.below hA
  obtain ⟨W1, hW1⟩ : ∃ W1, w.alloc (.cells #[.int .i64 (st.dur.length : Int), .map (some mb), .slice ao st.pend.length cap0, .bool st.lim.isSome, .int .i64 ((st.lim.getD 0 : Nat) : Int), .bool st.down] 60) = W1 := ⟨_, rfl⟩
  rw [hW1] at hA hbk hV ⊢
  clear hW1 y1 y2
  have y1 := hV.blk.cell 1
  have y2 := hV.blk.cell 2
  simp at y1 y2
  have hlt1 := hV.blk.lt
  have hne : vb ≠ w.heap.size := by omega
  have x1 := hbk.cell 1
  have x2 := hbk.cell 2
  have f1 := hbk.frozen 1
  have f2 := hbk.frozen 2
  have hls := hbk.lt
  simp at x1 x2
  have HV := Lib.hid (hV.turn (G := []) ((Turn.refl [] W1).drew) (fun _ _ => by simp))
  have HBK := Lib.hid hbk
  have HA := Lib.hid hA
  have hpl := hV.wf.room
  clear hV hbk hA c0 c1 c2 c3 c4 c5
  go_region_held3 (fun w' => w'.cell? ⟨vb, 1, none⟩ = some (.map (some mb)) ∧ w'.cell? ⟨vb, 2, none⟩ = some (.slice ao st.pend.length cap0))
    (first
      | go_keep
      | (go_split_ands
         refine ⟨?_, ?_⟩
         · (repeat rw [World.cell?_of_block (a := ⟨vb, 1, none⟩) (Below.heap_setCell _ _ _ vb hne)]); (first | assumption | go_keep)
         · (repeat rw [World.cell?_of_block (a := ⟨vb, 2, none⟩) (Below.heap_setCell _ _ _ vb hne)]); (first | assumption | go_keep)))
    (first
      | (go_at_call 40; refine (AnyW.maps_Clone_owns Try.cloneM _ _ mb _ _ _ HV.out.map).mono ?_; rintro e w2 ⟨rfl, hm2, hm2', hb2⟩; have z1 := (hb2.cell (p := ⟨vb, 1, none⟩) hlt1).trans y1; have z2 := (hb2.cell (p := ⟨vb, 2, none⟩) hlt1).trans y2; have HV2 := Lib.hid (HV.out.below hb2); have HB2 := Lib.hid hb2; have hs2 := hb2.size; have HM2 := Lib.hid hm2; have u1 := (hb2.cell (p := ⟨w.heap.size, 1, none⟩) hls).trans x1; have u2 := (hb2.cell (p := ⟨w.heap.size, 2, none⟩) hls).trans x2; have g1 := (hb2.frozen (p := ⟨w.heap.size, 1, none⟩) hls).trans f1; have g2 := (hb2.frozen (p := ⟨w.heap.size, 2, none⟩) hls).trans f2; clear hm2 hm2' hb2)
      | (go_at_call 41; refine (sliceClone_any HV2.out.row hpl).mono ?_; rintro e w3 ⟨v3, rfl, ho3, hb3⟩; obtain ⟨ao3, cap3, rfl⟩ := row_form ho3; have HB3 := Lib.hid hb3; have HO3 := Lib.hid ho3; have hlw2 := Nat.lt_of_lt_of_le hls hs2; have a1 := (hb3.cell (p := ⟨vb, 1, none⟩) (Nat.lt_of_lt_of_le hlt1 hs2)).trans z1; have a2 := (hb3.cell (p := ⟨vb, 2, none⟩) (Nat.lt_of_lt_of_le hlt1 hs2)).trans z2; have q1 := (hb3.cell (p := ⟨w.heap.size, 1, none⟩) hlw2).trans u1; have q2 := (hb3.cell (p := ⟨w.heap.size, 2, none⟩) hlw2).trans u2; have k1 := (hb3.frozen (p := ⟨w.heap.size, 1, none⟩) hlw2).trans g1; have k2 := (hb3.frozen (p := ⟨w.heap.size, 2, none⟩) hlw2).trans g2; clear ho3 hb3))
  go_wp2_with fail
  go_ret
  have hb2 : Below W1.heap.size W1 w2 := ⟨HB2.out.os, HB2.out.tape, HB2.out.output, HB2.out.size, HB2.out.block⟩
  have hb3 := HB3.out
  have hs2' : W1.heap.size ≤ w2.heap.size := hb2.size
  have hk3 : Blk w3 w.heap.size _ _ := (HBK.out.below hb2 hls).below hb3 hlw2
  have hT : Turn [w.heap.size] w3 ((w3.setCell ⟨w.heap.size, 1, none⟩ (.map (some W1.heap.size))).setCell ⟨w.heap.size, 2, none⟩ (.slice ao3 st.pend.length cap3)) :=
    ((Turn.refl _ w3).setCell (p := ⟨w.heap.size, 1, none⟩) (.inl (by simp)) _).setCell (p := ⟨w.heap.size, 2, none⟩) (.inl (by simp)) _
  have hm3 := map_turn (map_turn HM2.out (Turn.ofBelow (F := []) hb3 (Nat.le_refl _)) (by simp)) hT (by
    have : W1.heap.size ≠ w.heap.size := by omega
    simpa using this)
  have hr3 := row_turn HO3.out hT (fun g hg => by
    have h1 := (HO3.out.lt g hg).1
    have : g ≠ w.heap.size := by omega
    simpa using this)
  have hbw : Below w.heap.size w w3 := (HA.out.trans (hb2.mono HA.out.size)).trans (hb3.mono (by omega))
  refine ⟨w.heap.size, foot w.heap.size W1.heap.size (.slice ao3 st.pend.length cap3), rfl, ⟨W1.heap.size, _, ⟨(hk3.set_ 1 _).set_ 2 _, hm3, row_down hr3 (Nat.zero_le _), H.out.wf⟩, rfl⟩, ?_, ?_⟩
  · exact hbw.trans (hT.toBelow (fun i hi => by simp at hi; omega) hbw.size)
  · intro i hi
    unfold foot at hi
    rcases List.mem_cons.1 hi with rfl | hi
    · exact Nat.le_refl _
    · rcases List.mem_cons.1 hi with rfl | hi
      · omega
      · have := (HO3.out.lt i (by simpa using hi)).1
        omega
theorem clone_own {w : World} {vb : Nat} {st : VS} {F : List Nat} (h : VolF w vb st F) :
    Calls Try.prog 26 #[.pointer (some ⟨vb, 0, none⟩)] w fun e w' => ∃ vb' F', e = .returned (.pointer (some ⟨vb', 0, none⟩)) ∧ Own w w' vb' st F' := by
  obtain ⟨mb, pv, h, rfl⟩ := h
  exact clone_any h
end Go.Proofs.Ytfhcecfddejcdaa
