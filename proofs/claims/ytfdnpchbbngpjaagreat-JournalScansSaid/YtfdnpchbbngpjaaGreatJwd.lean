/- A header is written; the table is done behind it. -/
import Derived.Test.YtfdnpchbbngpjaaGreatJfm
namespace Go.Proofs.YtfdnpchbbngpjaaGreat
attribute [local go_sem ↓] Go.wp_at_zero Go.wp_at_succ
open Go.RowKit Go.Maps

set_option maxRecDepth 100000 in
set_option maxHeartbeats 4000000 in
theorem text_done (h : Hd) (hs : h.small) {w : World} {tb : Nat} (ht : Tab w tb) :
    Calls Tryz.prog 77 #[.agg (hcells h), .pointer (some ⟨tb, 0, none⟩)] w fun e w' => e = .returned (.string (bytesOf (headT h))) ∧ Tb w' tb 1 0 crc8 ∧ Turn [tb] w w' := by
  obtain ⟨h1, h2, h3, h4⟩ := hs
  have htl := ht.lt
  unfold hcells
  go_enter Tryz.func77, Tryz.ntmps77
  have hb0 : Below w.heap.size w (w.alloc (.cells #[.int .i64 (h.num : Int), .int .i64 (h.first : Int), .int .i64 (h.beg : Int), .int .i64 (h.en : Int)] 85)) := (Below.refl _ w).alloc (Nat.le_refl _) _
  have b0 : Blk (w.alloc (.cells #[.int .i64 (h.num : Int), .int .i64 (h.first : Int), .int .i64 (h.beg : Int), .int .i64 (h.en : Int)] 85)) w.heap.size 85 #[.int .i64 (h.num : Int), .int .i64 (h.first : Int), .int .i64 (h.beg : Int), .int .i64 (h.en : Int)] := Blk.new _ _ _
  have c0 := b0.cell 0
  have c1 := b0.cell 1
  have c2 := b0.cell 2
  have c3 := b0.cell 3
  have lt := b0.lt
  go_wp2_with fail
  obtain ⟨W0, hW0⟩ : ∃ W0, (w.alloc (.cells #[.int .i64 (h.num : Int), .int .i64 (h.first : Int), .int .i64 (h.beg : Int), .int .i64 (h.en : Int)] 85)) = W0 := ⟨_, rfl⟩
  rw [hW0] at hb0 c0 c1 c2 c3 lt ⊢
  clear hW0 b0
  simp at c0 c1 c2 c3
  have z8 : ∀ n, (bytesOf (beN 8 n)).size = 8 := fun n => by rw [bytesOf_size, beN_length]
  have zm : (⟨#[74, 82, 78, 49]⟩ : ByteArray).size = 4 := rfl
  go_region_held3 (fun w' => w'.cell? ⟨w.heap.size, 0, none⟩ = some (Value.int .i64 (h.num : Int)) ∧ w'.cell? ⟨w.heap.size, 1, none⟩ = some (Value.int .i64 (h.first : Int)) ∧ w'.cell? ⟨w.heap.size, 2, none⟩ = some (Value.int .i64 (h.beg : Int)) ∧ w'.cell? ⟨w.heap.size, 3, none⟩ = some (Value.int .i64 (h.en : Int)))
    (first | go_keep)
    (first
      | (go_at_call_of 47 (Value.int .i64 (h.num : Int)); refine (number_any h.num 8 (by decide) (by decide) _).mono ?_; rintro e w1 ⟨rfl, hb1⟩; have c0 := (hb1.cell (p := ⟨w.heap.size, 0, none⟩) lt).trans c0; have c1 := (hb1.cell (p := ⟨w.heap.size, 1, none⟩) lt).trans c1; have c2 := (hb1.cell (p := ⟨w.heap.size, 2, none⟩) lt).trans c2; have c3 := (hb1.cell (p := ⟨w.heap.size, 3, none⟩) lt).trans c3; have lt := Nat.lt_of_lt_of_le lt hb1.size)
      | (go_at_call_of 47 (Value.int .i64 (h.first : Int)); refine (number_any h.first 8 (by decide) (by decide) _).mono ?_; rintro e w2 ⟨rfl, hb2⟩; have c0 := (hb2.cell (p := ⟨w.heap.size, 0, none⟩) lt).trans c0; have c1 := (hb2.cell (p := ⟨w.heap.size, 1, none⟩) lt).trans c1; have c2 := (hb2.cell (p := ⟨w.heap.size, 2, none⟩) lt).trans c2; have c3 := (hb2.cell (p := ⟨w.heap.size, 3, none⟩) lt).trans c3; have lt := Nat.lt_of_lt_of_le lt hb2.size)
      | (go_at_call_of 47 (Value.int .i64 (h.beg : Int)); refine (number_any h.beg 8 (by decide) (by decide) _).mono ?_; rintro e w3 ⟨rfl, hb3⟩; have c0 := (hb3.cell (p := ⟨w.heap.size, 0, none⟩) lt).trans c0; have c1 := (hb3.cell (p := ⟨w.heap.size, 1, none⟩) lt).trans c1; have c2 := (hb3.cell (p := ⟨w.heap.size, 2, none⟩) lt).trans c2; have c3 := (hb3.cell (p := ⟨w.heap.size, 3, none⟩) lt).trans c3; have lt := Nat.lt_of_lt_of_le lt hb3.size)
      | (go_at_call_of 47 (Value.int .i64 (h.en : Int)); refine (number_any h.en 8 (by decide) (by decide) _).mono ?_; rintro e w4 ⟨rfl, hb4⟩; have c0 := (hb4.cell (p := ⟨w.heap.size, 0, none⟩) lt).trans c0; have c1 := (hb4.cell (p := ⟨w.heap.size, 1, none⟩) lt).trans c1; have c2 := (hb4.cell (p := ⟨w.heap.size, 2, none⟩) lt).trans c2; have c3 := (hb4.cell (p := ⟨w.heap.size, 3, none⟩) lt).trans c3; have lt := Nat.lt_of_lt_of_le lt hb4.size))
  have hB : Below w.heap.size w w4 := by
    have s0 := hb0.size
    have s1 := hb1.size
    have s2 := hb2.size
    have s3 := hb3.size
    simp at s1
    refine (((hb0.trans ((below_undrewN (n := 1) hb1).mono s0)).trans (hb2.mono (by omega))).trans (hb3.mono (by omega))).trans (hb4.mono (by omega))
  have hT4 := ht.below hB htl
  have he : ({ data := #[74, 82, 78, 49] } : ByteArray) ++ bytesOf (beN 8 h.num) ++ bytesOf (beN 8 h.first) ++ bytesOf (beN 8 h.beg) ++ bytesOf (beN 8 h.en) = bytesOf (headL h) := by
    have e0 : ({ data := #[74, 82, 78, 49] } : ByteArray) = bytesOf magicL := rfl
    rw [e0, bytes_add, bytes_add, bytes_add, bytes_add]
    rfl
  rw [he]
  have z36 : (bytesOf (headL h)).size = 36 := by rw [bytesOf_size, headL_length]
  have z4 : (bytesOf (beN 4 (crc (headL h)))).size = 4 := by rw [bytesOf_size, beN_length]
  have hck := checksum_any (bytesOf (headL h)) (by rw [z36]; decide) hT4
  rw [bytesOf_list] at hck
  have HCK := Lib.hid hck
  have HB := Lib.hid hB
  clear hck hB hb0 hb1 hb2 hb3 hb4 he hT4
  clear c0 c1 c2 c3 z8
  go_wp2_with (first
    | (go_at_call 49; refine HCK.out.mono ?_; rintro e w5 ⟨rfl, hD5, ht5⟩; have hT5 := hD5)
    | (go_at_call 47; refine (number_any (crc (headL h)) 4 (by decide) (by decide) _).mono ?_; rintro e w6 ⟨rfl, hb6⟩)
    | (go_at_call 88; refine (Tryz.strings_Repeat (⟨#[0]⟩ : ByteArray) 216 _ (by decide) (by decide)).mono ?_; rintro e w7 ⟨rfl, hb7⟩))
  refine bodyPost_ret (v := .string (bytesOf (headL h) ++ bytesOf (beN 4 (crc (headL h))) ++ { data := (Lib.repeatL [0] 216).toArray })) (by simp [results, Tryz.f77, go_sem]) rfl ?_
  have hz : (⟨(Lib.repeatL ([0] : List UInt8) 216).toArray⟩ : ByteArray) = bytesOf (List.replicate 216 0) := by
    have : Lib.repeatL ([0] : List UInt8) 216 = List.replicate 216 0 := by decide +kernel
    rw [this]; rfl
  have t5 : Turn [tb] w w5 := (Turn.ofBelow HB.out (Nat.le_refl _)).trans ht5 (fun i hi => .inl hi)
  have t6 := t5.below hb6 t5.size
  have t7 := t6.below hb7 t6.size
  refine ⟨?_, Blk.below (Blk.below hT5 hb6 (Blk.lt hT5)) hb7 (Blk.lt (Blk.below hT5 hb6 (Blk.lt hT5))), t7⟩
  rw [hz, bytes_add, bytes_add]
  rfl
set_option maxRecDepth 100000 in
set_option maxHeartbeats 4000000 in
theorem jwrite_done (h : Hd) (hs : h.small) {w : World} {vb tb : Nat} {st : VS} {F : List Nat} (hP : Pr w vb st tb F) :
    Calls Tryz.prog 52 #[.pointer (some ⟨vb, 0, none⟩), .pointer (some ⟨tb, 0, none⟩), .agg (hcells h)] w fun e w' => e = .returned (.int .i64 ((st.putHd h).1 : Int)) ∧ StepP F w w' vb (st.putHd h).2 tb ∧ Tb w' tb 1 0 crc8 := by
  obtain ⟨x, hx⟩ : ∃ x, st.write ((h.num % 2 : Nat) : Int) (bytesOf (headT h)) = x := ⟨_, rfl⟩
  have hput : st.putHd h = if x.1 ≠ 0 then x else x.2.barrier := by unfold VS.putHd; rw [hx]
  unfold hcells
  have hb0 : Below w.heap.size w (w.alloc (.cells #[.int .i64 (h.num : Int), .int .i64 (h.first : Int), .int .i64 (h.beg : Int), .int .i64 (h.en : Int)] 85)) := (Below.refl _ w).alloc (Nat.le_refl _) _
  have b0 : Blk (w.alloc (.cells #[.int .i64 (h.num : Int), .int .i64 (h.first : Int), .int .i64 (h.beg : Int), .int .i64 (h.en : Int)] 85)) w.heap.size 85 #[.int .i64 (h.num : Int), .int .i64 (h.first : Int), .int .i64 (h.beg : Int), .int .i64 (h.en : Int)] := Blk.new _ _ _
  have c0 := b0.cell 0
  have c1 := b0.cell 1
  have c2 := b0.cell 2
  have c3 := b0.cell 3
  have lt := b0.lt
  go_enter Tryz.func52, Tryz.ntmps52
  go_wp2_with fail
  obtain ⟨W0, hW0⟩ : ∃ W0, (w.alloc (.cells #[.int .i64 (h.num : Int), .int .i64 (h.first : Int), .int .i64 (h.beg : Int), .int .i64 (h.en : Int)] 85)) = W0 := ⟨_, rfl⟩
  rw [hW0] at hb0 c0 c1 c2 c3 lt ⊢
  clear hW0 b0
  simp at c0 c1 c2 c3
  have hP0 := hP.below hb0
  have hlF := hP.vol.lt
  have htl := hP.tab.lt
  have hneF : w.heap.size ∉ F := fun hm => by have := hlF _ hm; omega
  have etm := Lib.hid (show (h.num : Int).tmod 2 = ((h.num % 2 : Nat) : Int) from rfl)
  have hne : w.heap.size ∉ [tb] := by have := hP.tab.lt; simp; omega
  have HP0 := Lib.hid hP0
  clear hP hP0
  go_region_held3 (fun w' => w'.cell? ⟨w.heap.size, 0, none⟩ = some (Value.int .i64 (h.num : Int)) ∧ w'.cell? ⟨w.heap.size, 1, none⟩ = some (Value.int .i64 (h.first : Int)) ∧ w'.cell? ⟨w.heap.size, 2, none⟩ = some (Value.int .i64 (h.beg : Int)) ∧ w'.cell? ⟨w.heap.size, 3, none⟩ = some (Value.int .i64 (h.en : Int)))
    (first | go_keep)
    (first
      | (go_at_call 77; refine (text_done h hs (Tab.below (HP0.out.tab) (below_drewN (n := 1) (Below.refl _ _)) HP0.out.tab.lt)).mono ?_; rintro e w1 ⟨rfl, hD1, ht1⟩; have hT1 : Tab w1 tb := .inr hD1; have c0 := (ht1.cell (p := ⟨w.heap.size, 0, none⟩) lt hne).trans c0; have c1 := (ht1.cell (p := ⟨w.heap.size, 1, none⟩) lt hne).trans c1; have c2 := (ht1.cell (p := ⟨w.heap.size, 2, none⟩) lt hne).trans c2; have c3 := (ht1.cell (p := ⟨w.heap.size, 3, none⟩) lt hne).trans c3)
      | (go_at_call 38; rw [etm.out]; refine (write_any _ (bytesOf (headT h)) (((HP0.out.below (below_drewN (n := 1) (Below.refl _ _))).tabs ht1 hT1).vol)).mono ?_; rw [hx]; rintro e w2 ⟨rfl, hst⟩; obtain ⟨F2, hv2, ht2, hf2⟩ := hst; have lt := Nat.lt_of_lt_of_le lt ht1.size; have c0 := (ht2.cell (p := ⟨w.heap.size, 0, none⟩) lt hneF).trans c0; have c1 := (ht2.cell (p := ⟨w.heap.size, 1, none⟩) lt hneF).trans c1; have c2 := (ht2.cell (p := ⟨w.heap.size, 2, none⟩) lt hneF).trans c2; have c3 := (ht2.cell (p := ⟨w.heap.size, 3, none⟩) lt hneF).trans c3))
  have hst2 : StepP F w w2 vb x.2 tb := by
    have hp1 := (HP0.out.below (below_drewN (n := 1) (Below.refl _ _))).tabs ht1 hT1
    have h1 := hp1.stepV ⟨F2, hv2, ht2, hf2⟩
    have t1 : Turn (tb :: F) w w1 := ((Turn.ofBelow hb0 (Nat.le_refl _)).trans (Turn.mono (F := [tb]) (G := tb :: F) ⟨ht1.os, ht1.tape, ht1.output, ht1.size, ht1.block⟩ (fun i hi => by simp at hi; simp [hi])) (fun i hi => .inl hi))
    exact StepP.pre t1 h1
  have H2 := Lib.hid hst2
  have HD2 := Lib.hid (show Tb w2 tb 1 0 crc8 from Blk.turn hD1 ht2 HP0.out.off)
  clear hst2 hv2 ht2 hf2 ht1 hT1 hD1 hb0 c0 c1 c2 c3
  by_cases hz : x.1 = 0
  · have hput' : st.putHd h = x.2.barrier := by rw [hput, if_neg (by rw [hz]; decide)]
    have HPU := Lib.hid hput'
    clear hput hput'
    obtain ⟨F3, hp3, ht3, hf3⟩ := H2.out
    go_wp2_with (first
      | (go_at_call 76; refine (barrier_any hp3.vol).mono ?_; rintro e w3 ⟨rfl, hst3⟩))
    go_ret
    rw [HPU.out]
    refine ⟨rfl, ?_⟩
    have h3 := hp3.stepV hst3
    have hD3 : Tb w3 tb 1 0 crc8 := by obtain ⟨_, _, m2, _⟩ := hst3; exact Blk.turn HD2.out m2 hp3.off
    refine ⟨?_, hD3⟩
    obtain ⟨F4, k1, k2, k3⟩ := h3
    refine ⟨F4, k1, ht3.trans k2 (fun i hi => ?_), fun i hi => ?_⟩
    · rcases List.mem_cons.1 hi with rfl | hi
      · exact .inl (by simp)
      · rcases hf3 i hi with e | e
        · exact .inl (by simp [e])
        · exact .inr e
    · rcases k3 i hi with e | e
      · exact hf3 i e
      · exact .inr (Nat.le_trans ht3.size e)
  · have hput' : st.putHd h = x := by rw [hput, if_pos hz]
    have HPU := Lib.hid hput'
    clear hput hput'
    have hzi : ((x.1 : Int) != 0) = true := by simp; omega
    go_wp2_with fail
    go_ret
    rw [HPU.out]
    exact ⟨rfl, H2.out, HD2.out⟩
end Go.Proofs.YtfdnpchbbngpjaaGreat
