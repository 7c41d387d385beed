/- A header is read. -/
import Derived.Test.YtfdnpchbbngpjaaGreatJfm
namespace Go.Proofs.YtfdnpchbbngpjaaGreat
attribute [local go_sem ↓] Go.wp_at_zero Go.wp_at_succ
open Go.RowKit Go.Maps

theorem read_in {st : VS} (hd : st.down = false) {k : Nat} (hk : k < st.dur.length) : st.read (k : Int) = (st.content k, 0) := by
  unfold VS.read
  rw [if_neg (by rw [hd]; decide), if_neg (by rw [inR_iff.2 ⟨by omega, by omega⟩]; decide)]
  simp
theorem ext_seg (s : ByteArray) (a b : Nat) : (s.extract a b).data.toList = (s.data.toList.drop a).take (b - a) := by
  rw [ByteArray.data_extract, Array.toList_extract]
theorem magic_eq {s : ByteArray} : ((s.extract 0 4).toList == [74, 82, 78, 49]) = (s.data.toList.take 4 == magicL) := by
  rw [ByteArray.toList_eq, ext_seg]
  rfl
set_option maxRecDepth 100000 in
set_option maxHeartbeats 4000000 in
theorem rhead_a {w : World} {vb tb : Nat} {st : VS} {F : List Nat} (hP : Pr w vb st tb F) (hd : st.down = false) {m : Nat} (hl : st.dur.length = m + 2) (k : Nat) (hk : k < 2) (hg : ((st.sct k).take 4 == magicL) = false) :
    Calls Tryz.prog 80 #[.pointer (some ⟨vb, 0, none⟩), .pointer (some ⟨tb, 0, none⟩), .int .i64 (k : Int)] w fun e w' => e = .returned (.tuple #[.agg (hcells Hd.nil), .bool false]) ∧ Pr w' vb st tb F ∧ Turn [tb] w w' ∧ (Tb w tb 1 0 crc8 → Tb w' tb 1 0 crc8) := by
  have hrd := read_in hd (k := k) (by omega)
  have hs := hP.vol.wf.content k
  have hsc : st.sct k = (st.content k).data.toList := rfl
  obtain ⟨s, hs0⟩ : ∃ s, st.content k = s := ⟨_, rfl⟩
  rw [hs0] at hs hrd hsc
  rw [hsc] at hg
  have HR := Lib.hid hrd
  have e4 := magic_eq (s := s)
  rw [hg] at e4
  have b0 : Blk (w.alloc (.cells #[.int .i64 0, .int .i64 0, .int .i64 0, .int .i64 0] 85)) w.heap.size 85 #[.int .i64 0, .int .i64 0, .int .i64 0, .int .i64 0] := Blk.new _ _ _
  clear hrd hg hsc hs0
  go_enter Tryz.func80, Tryz.ntmps80
  go_wp2_with (first
    | (go_at_call 37; refine (read_any (k : Int) (hP.below ((Below.refl _ w).alloc (Nat.le_refl _) _)).vol).mono ?_; rw [HR.out]; rintro e w1 ⟨rfl, hb1⟩; have b1 := b0.below hb1 b0.lt; have c0 := b1.cell 0; have c1 := b1.cell 1; have c2 := b1.cell 2; have c3 := b1.cell 3; have f0 := b1.frozen 0; have f1 := b1.frozen 1; have f2 := b1.frozen 2; have f3 := b1.frozen 3; simp at c0 c1 c2 c3))
  go_quiet (fail)
  go_wp2_with fail
  have hbw : Below w.heap.size w w1 := ((Below.refl _ w).alloc (Nat.le_refl _) _).trans (hb1.mono (by simp))
  have hbF := ((((below_drewN (n := nq) hbw).setCell (p := ⟨w.heap.size, 0, none⟩) (Nat.le_refl _) (.int .i64 0)).setCell (p := ⟨w.heap.size, 1, none⟩) (Nat.le_refl _) (.int .i64 0)).setCell (p := ⟨w.heap.size, 2, none⟩) (Nat.le_refl _) (.int .i64 0)).setCell (p := ⟨w.heap.size, 3, none⟩) (Nat.le_refl _) (.int .i64 0)
  refine bodyPost_ret (v := .tuple #[.agg (hcells Hd.nil), .bool false]) (by simp [results, Tryz.f80, go_sem, c0, c1, c2, c3]; rfl) rfl ⟨rfl, hP.below hbF, Turn.ofBelow hbF (Nat.le_refl _), fun h => Blk.below h hbF hP.tab.lt⟩

theorem valI_of {l : List UInt8} (h : beV l < 9223372036854775808) : valI l = (beV l : Int) := by
  unfold valI wrap64
  rw [Nat.mod_eq_of_lt (by omega)]
  omega
theorem valI_seg4 (s : ByteArray) (a b : Nat) (h : b - a ≤ 4) : valI (s.extract a b).data.toList = (field s.data.toList a (b - a) : Int) := by
  rw [ext_seg]
  have := beV_lt ((s.data.toList.drop a).take (b - a))
  have hl : ((s.data.toList.drop a).take (b - a)).length ≤ 4 := by rw [List.length_take]; omega
  have : 256 ^ ((s.data.toList.drop a).take (b - a)).length ≤ 256 ^ 4 := Nat.pow_le_pow_right (by decide) hl
  exact valI_of (by omega)
theorem valI_seg8 (l : List UInt8) (a : Nat) : (0 ≤ valI (List.take 8 (List.drop a l)) ∧ valI (List.take 8 (List.drop a l)) < 281474976710656 ↔ field l a 8 < 281474976710656) ∧ (field l a 8 < 281474976710656 → valI (List.take 8 (List.drop a l)) = (field l a 8 : Int)) := by
  have hb := beV_lt ((l.drop a).take 8)
  have hl : ((l.drop a).take 8).length ≤ 8 := by rw [List.length_take]; omega
  have h2 : 256 ^ ((l.drop a).take 8).length ≤ 256 ^ 8 := Nat.pow_le_pow_right (by decide) hl
  unfold field
  refine ⟨?_, fun h => valI_of (by omega)⟩
  unfold valI wrap64
  rw [Nat.mod_eq_of_lt (by omega)]
  constructor
  · rintro ⟨h1, h3⟩; omega
  · intro h; omega
/-- four cells are stored once more -/
theorem keep4 {W : World} {b : Nat} {v0 v1 v2 v3 : Value} (h0 : W.cell? ⟨b, 0, none⟩ = some v0) (h1 : W.cell? ⟨b, 1, none⟩ = some v1) (h2 : W.cell? ⟨b, 2, none⟩ = some v2) (h3 : W.cell? ⟨b, 3, none⟩ = some v3) :
    ((((W.setCell ⟨b, 0, none⟩ v0).setCell ⟨b, 1, none⟩ v1).setCell ⟨b, 2, none⟩ v2).setCell ⟨b, 3, none⟩ v3).cell? ⟨b, 0, none⟩ = some v0 ∧ ((((W.setCell ⟨b, 0, none⟩ v0).setCell ⟨b, 1, none⟩ v1).setCell ⟨b, 2, none⟩ v2).setCell ⟨b, 3, none⟩ v3).cell? ⟨b, 1, none⟩ = some v1 ∧
    ((((W.setCell ⟨b, 0, none⟩ v0).setCell ⟨b, 1, none⟩ v1).setCell ⟨b, 2, none⟩ v2).setCell ⟨b, 3, none⟩ v3).cell? ⟨b, 2, none⟩ = some v2 ∧ ((((W.setCell ⟨b, 0, none⟩ v0).setCell ⟨b, 1, none⟩ v1).setCell ⟨b, 2, none⟩ v2).setCell ⟨b, 3, none⟩ v3).cell? ⟨b, 3, none⟩ = some v3 := by
  refine ⟨?_, ?_, ?_, ?_⟩ <;> simp [go_sem, h0, h1, h2, h3]
/-- the same, a draw later -/
theorem keep4d {W : World} {b : Nat} {v0 v1 v2 v3 : Value} (h0 : W.cell? ⟨b, 0, none⟩ = some v0) (h1 : W.cell? ⟨b, 1, none⟩ = some v1) (h2 : W.cell? ⟨b, 2, none⟩ = some v2) (h3 : W.cell? ⟨b, 3, none⟩ = some v3) :
    ((((W.setCell ⟨b, 0, none⟩ v0).setCell ⟨b, 1, none⟩ v1).setCell ⟨b, 2, none⟩ v2).setCell ⟨b, 3, none⟩ v3).drew.cell? ⟨b, 0, none⟩ = some v0 ∧ ((((W.setCell ⟨b, 0, none⟩ v0).setCell ⟨b, 1, none⟩ v1).setCell ⟨b, 2, none⟩ v2).setCell ⟨b, 3, none⟩ v3).drew.cell? ⟨b, 1, none⟩ = some v1 ∧
    ((((W.setCell ⟨b, 0, none⟩ v0).setCell ⟨b, 1, none⟩ v1).setCell ⟨b, 2, none⟩ v2).setCell ⟨b, 3, none⟩ v3).drew.cell? ⟨b, 2, none⟩ = some v2 ∧ ((((W.setCell ⟨b, 0, none⟩ v0).setCell ⟨b, 1, none⟩ v1).setCell ⟨b, 2, none⟩ v2).setCell ⟨b, 3, none⟩ v3).drew.cell? ⟨b, 3, none⟩ = some v3 := by
  refine ⟨?_, ?_, ?_, ?_⟩ <;> simp [go_sem, h0, h1, h2, h3]
def okV (v : Int) : Prop := 0 ≤ v ∧ v < 281474976710656
def nth4 (v0 v1 v2 v3 : Int) (j : Nat) : Int := if j = 0 then v0 else if j = 1 then v1 else if j = 2 then v2 else v3
theorem nth4_0 (a b c d : Int) : nth4 a b c d 0 = a := rfl
theorem nth4_1 (a b c d : Int) : nth4 a b c d 1 = b := rfl
theorem nth4_2 (a b c d : Int) : nth4 a b c d 2 = c := rfl
theorem nth4_3 (a b c d : Int) : nth4 a b c d 3 = d := rfl
theorem okV_seg (s : List UInt8) (a : Nat) : okV (valI (List.take 8 (List.drop a s))) ↔ field s a 8 < 281474976710656 := (valI_seg8 s a).1
theorem readHd_big {s : List UInt8} {k n : Nat} {v0 v1 v2 v3 : Int} (hV : valI (List.take 8 (List.drop 4 s)) = v0 ∧ valI (List.take 8 (List.drop 12 s)) = v1 ∧ valI (List.take 8 (List.drop 20 s)) = v2 ∧ valI (List.take 8 (List.drop 28 s)) = v3) {j : Nat}
    (h : ¬ okV (nth4 v0 v1 v2 v3 j)) : readHd s k n = (Hd.nil, false) := by
  unfold readHd
  by_cases hg : hdGood s = false
  · rw [if_pos hg]
  · rw [if_neg hg]
    have hns : ¬ (hdOf s).small := by
      rintro ⟨s1, s2, s3, s4⟩
      obtain ⟨rfl, rfl, rfl, rfl⟩ := hV
      have o1 := (okV_seg s 4).2 s1
      have o2 := (okV_seg s 12).2 s2
      have o3 := (okV_seg s 20).2 s3
      have o4 := (okV_seg s 28).2 s4
      unfold nth4 at h
      by_cases j0 : j = 0
      · rw [if_pos j0] at h; exact h o1
      · rw [if_neg j0] at h
        by_cases j1 : j = 1
        · rw [if_pos j1] at h; exact h o2
        · rw [if_neg j1] at h
          by_cases j2 : j = 2
          · rw [if_pos j2] at h; exact h o3
          · rw [if_neg j2] at h; exact h o4
    rw [if_pos hns]
theorem readHd_fit {s : List UInt8} {k n : Nat} {v0 v1 v2 v3 : Int} (hg : hdGood s = true) (hV : valI (List.take 8 (List.drop 4 s)) = v0 ∧ valI (List.take 8 (List.drop 12 s)) = v1 ∧ valI (List.take 8 (List.drop 20 s)) = v2 ∧ valI (List.take 8 (List.drop 28 s)) = v3)
    (h : ∀ x, x < 4 → okV (nth4 v0 v1 v2 v3 x)) : ∃ H : Hd, H.small ∧ v0 = (H.num : Int) ∧ v1 = (H.first : Int) ∧ v2 = (H.beg : Int) ∧ v3 = (H.en : Int) ∧ readHd s k n = (H, hdFits H k n) := by
  obtain ⟨rfl, rfl, rfl, rfl⟩ := hV
  have g0 := h 0 (by decide)
  have g1 := h 1 (by decide)
  have g2 := h 2 (by decide)
  have g3 := h 3 (by decide)
  rw [nth4_0] at g0
  rw [nth4_1] at g1
  rw [nth4_2] at g2
  rw [nth4_3] at g3
  have f0 := (okV_seg s 4).1 g0
  have f1 := (okV_seg s 12).1 g1
  have f2 := (okV_seg s 20).1 g2
  have f3 := (okV_seg s 28).1 g3
  have hs : (hdOf s).small := ⟨f0, f1, f2, f3⟩
  refine ⟨hdOf s, hs, (valI_seg8 s 4).2 f0, (valI_seg8 s 12).2 f1, (valI_seg8 s 20).2 f2, (valI_seg8 s 28).2 f3, ?_⟩
  unfold readHd
  rw [if_neg (by rw [hg]; decide), if_neg (fun hn => hn hs)]
set_option maxRecDepth 100000 in
set_option maxHeartbeats 4000000 in
theorem rhead_b {w : World} {vb tb : Nat} {st : VS} {F : List Nat} (hP : Pr w vb st tb F) (hd : st.down = false) {m : Nat} (hl : st.dur.length = m + 2) (k : Nat) (hk : k < 2) (hg : ((st.sct k).take 4 == magicL) = true) (hc : (field (st.sct k) 36 4 == crc ((st.sct k).take 36)) = false) :
    Calls Tryz.prog 80 #[.pointer (some ⟨vb, 0, none⟩), .pointer (some ⟨tb, 0, none⟩), .int .i64 (k : Int)] w fun e w' => e = .returned (.tuple #[.agg (hcells Hd.nil), .bool false]) ∧ Pr w' vb st tb F ∧ Turn [tb] w w' ∧ Tb w' tb 1 0 crc8 := by
  have hrd := read_in hd (k := k) (by omega)
  have hs := hP.vol.wf.content k
  have hsc : st.sct k = (st.content k).data.toList := rfl
  obtain ⟨s, hs0⟩ : ∃ s, st.content k = s := ⟨_, rfl⟩
  rw [hs0] at hs hrd hsc
  rw [hsc] at hg hc
  have HR := Lib.hid hrd
  have e4 := magic_eq (s := s)
  rw [hg] at e4
  have ec : (valI (List.take 4 (List.drop 36 s.data.toList)) != (crc (List.take 36 s.data.toList) : Int)) = true := by
    have h4 := valI_seg4 s 36 40 (by decide)
    rw [ext_seg] at h4
    rw [show (40 : Nat) - 36 = 4 from rfl] at h4
    rw [h4, bne_iff_ne]
    rw [beq_eq_false_iff_ne] at hc
    intro h
    exact hc (by omega)
  have b0 : Blk (w.alloc (.cells #[.int .i64 0, .int .i64 0, .int .i64 0, .int .i64 0] 85)) w.heap.size 85 #[.int .i64 0, .int .i64 0, .int .i64 0, .int .i64 0] := Blk.new _ _ _
  have htl := hP.tab.lt
  have hne : w.heap.size ∉ [tb] := by simp; omega
  have z36 : (s.extract 36 40).size ≤ 281474976710656 := by rw [ByteArray.size_extract]; omega
  have z0 : (s.extract 0 36).size ≤ 1048576 := by rw [ByteArray.size_extract]; omega
  clear hrd hg hsc hs0 hc
  go_enter Tryz.func80, Tryz.ntmps80
  go_wp2_with (first
    | (go_at_call 37; refine (read_any (k : Int) (hP.below ((Below.refl _ w).alloc (Nat.le_refl _) _)).vol).mono ?_; rw [HR.out]; rintro e w1 ⟨rfl, hb1⟩; have b1 := b0.below hb1 b0.lt; have hbw : Below w.heap.size w w1 := ((Below.refl _ w).alloc (Nat.le_refl _) _).trans (hb1.mono (by simp)); have HP1 := Lib.hid (hP.below hbw)))
  have HLF := Lib.hid hP.vol.lt
  clear hP
  go_region_held3 (fun _ => True) (first | trivial)
    (first
      | (go_at_call 83; refine (value_any _ z36 _).mono ?_; rintro e w2 ⟨rfl, rfl⟩)
      | (go_at_call 49; refine (checksum_any _ z0 (Tab.below (HP1.out.tab) (below_drewN (n := 1) (Below.refl _ _)) HP1.out.tab.lt)).mono ?_; rintro e w3 ⟨rfl, hD3, ht3⟩; have hT3 : Tab w3 tb := .inr hD3))
  have b3 := Blk.turn (Blk.drewN b1 1) ht3 hne
  have c0 := b3.cell 0
  have c1 := b3.cell 1
  have c2 := b3.cell 2
  have c3 := b3.cell 3
  have f0 := b3.frozen 0
  have f1 := b3.frozen 1
  have f2 := b3.frozen 2
  have f3 := b3.frozen 3
  simp at c0 c1 c2 c3
  have hp3 := (HP1.out.below (below_drewN (n := 1) (Below.refl _ _))).tabs ht3 hT3
  have t3 : Turn [tb] w w3 := (Turn.ofBelow hbw (Nat.le_refl _)).trans (Turn.mono (F := [tb]) (G := [tb]) ⟨ht3.os, ht3.tape, ht3.output, ht3.size, ht3.block⟩ (fun i hi => hi)) (fun i hi => .inl hi)
  have sF : ∀ v0 v1 v2 v3, Pr ((((w3.setCell ⟨w.heap.size, 0, none⟩ v0).setCell ⟨w.heap.size, 1, none⟩ v1).setCell ⟨w.heap.size, 2, none⟩ v2).setCell ⟨w.heap.size, 3, none⟩ v3) vb st tb F ∧ Turn [tb] w ((((w3.setCell ⟨w.heap.size, 0, none⟩ v0).setCell ⟨w.heap.size, 1, none⟩ v1).setCell ⟨w.heap.size, 2, none⟩ v2).setCell ⟨w.heap.size, 3, none⟩ v3) ∧ Tb ((((w3.setCell ⟨w.heap.size, 0, none⟩ v0).setCell ⟨w.heap.size, 1, none⟩ v1).setCell ⟨w.heap.size, 2, none⟩ v2).setCell ⟨w.heap.size, 3, none⟩ v3) tb 1 0 crc8 := fun v0 v1 v2 v3 => by
    have u : Turn [w.heap.size] w3 ((((w3.setCell ⟨w.heap.size, 0, none⟩ v0).setCell ⟨w.heap.size, 1, none⟩ v1).setCell ⟨w.heap.size, 2, none⟩ v2).setCell ⟨w.heap.size, 3, none⟩ v3) :=
      ((((Turn.refl [w.heap.size] w3).setCell (.inl (by simp)) v0).setCell (.inl (by simp)) v1).setCell (.inl (by simp)) v2).setCell (.inl (by simp)) v3
    refine ⟨⟨hp3.vol.turn u (fun i hi => ?_), hp3.tab.turn u ?_, hp3.off⟩, t3.trans u (fun i hi => ?_), Blk.turn hD3 u (by simp; omega)⟩
    · have := HLF.out i hi; simp; omega
    · simp; omega
    · simp at hi; subst hi; exact .inr (Nat.le_refl _)
  have SF := Lib.hid sF
  clear sF hp3 t3 hT3 hD3 ht3 b3 b1 b0 hbw hb1
  go_wp2_with fail
  refine bodyPost_ret (v := .tuple #[.agg (hcells Hd.nil), .bool false]) (by simp [results, Tryz.f80, go_sem, c0, c1, c2, c3]; rfl) rfl ⟨rfl, SF.out _ _ _ _⟩
end Go.Proofs.YtfdnpchbbngpjaaGreat
