/- The area's size; a header's text; a header written. -/
import Derived.Test.YtfdnpchbbngpjaaGreatJnv
import Derived.Deep.RegionHeld3
import Derived.Deep.RegionWith
namespace Go.Proofs.YtfdnpchbbngpjaaGreat
attribute [local go_sem ↓] Go.wp_at_zero Go.wp_at_succ
open Go.RowKit Go.Maps

theorem crash_own {w : World} {vb : Nat} {st : VS} {F : List Nat} (h : VolF w vb st F) :
    Calls Tryz.prog 35 #[.pointer (some ⟨vb, 0, none⟩)] w fun e w' => e = .returned (.tuple #[]) ∧ Step F w w' vb st.crash := by
  obtain ⟨mb, pv, h, rfl⟩ := h
  exact (crash_any h).mono fun e w' ⟨he, hv, ht⟩ => ⟨he, _, ⟨mb, pv, hv, rfl⟩, ht.mono (fun i hi => by simp at hi; subst hi; exact Vol.foot_vb), fun i hi => .inl hi⟩
theorem limit_own (n : Int) {w : World} {vb : Nat} {st : VS} {F : List Nat} (h : VolF w vb st F) (hn : n ≤ 9223372036854775807) :
    Calls Tryz.prog 12 #[.pointer (some ⟨vb, 0, none⟩), .int .i64 n] w fun e w' => e = .returned (.tuple #[]) ∧ Step F w w' vb (st.limit n) := by
  obtain ⟨mb, pv, h, rfl⟩ := h
  exact (limit_any n h hn).mono fun e w' ⟨he, hv, ht⟩ => ⟨he, _, ⟨mb, pv, hv, rfl⟩, ht.mono (fun i hi => by simp at hi; subst hi; exact Vol.foot_vb), fun i hi => .inl hi⟩
theorem down_own {w : World} {vb : Nat} {st : VS} {F : List Nat} (h : VolF w vb st F) :
    Calls Tryz.prog 14 #[.pointer (some ⟨vb, 0, none⟩)] w fun e w' => e = .returned (.bool st.down) ∧ w = w' := by
  obtain ⟨mb, pv, h, rfl⟩ := h
  exact down_any h
theorem len_own {w : World} {vb : Nat} {st : VS} {F : List Nat} (h : VolF w vb st F) :
    Calls Tryz.prog 36 #[.pointer (some ⟨vb, 0, none⟩)] w fun e w' => e = .returned (.int .i64 (st.dur.length : Int)) ∧ w = w' := by
  obtain ⟨mb, pv, h, rfl⟩ := h
  exact len_any h
theorem area_any {w : World} {vb : Nat} {st : VS} {F : List Nat} (h : VolF w vb st F) {m : Nat} (hm : st.dur.length = m + 2) :
    Calls Tryz.prog 66 #[.pointer (some ⟨vb, 0, none⟩)] w fun e w' => e = .returned (.int .i64 ((256 * m : Nat) : Int)) ∧ w = w' := by
  have hl := h.wf.len
  go_enter Tryz.func66, Tryz.ntmps66
  go_wp2_with ((go_at_call 36; refine (len_own h).mono ?_; rw [hm]; rintro e w' ⟨rfl, rfl⟩))
  go_ret
  exact ⟨by go_num, rfl⟩

/-- a header in memory, boxed -/
def hcells (h : Hd) : Array Value := #[.int .i64 (h.num : Int), .int .i64 (h.first : Int), .int .i64 (h.beg : Int), .int .i64 (h.en : Int)]
theorem Tab.below {w w' : World} {tb B : Nat} (h : Tab w tb) (hb : Below B w w') (ht : tb < B) : Tab w' tb := by
  rcases h with h | h
  · exact .inl (Blk.below h hb ht)
  · exact .inr (Blk.below h hb ht)
theorem Tab.turn {w w' : World} {tb : Nat} {F : List Nat} (h : Tab w tb) (hb : Turn F w w') (ht : tb ∉ F) : Tab w' tb := by
  rcases h with h | h
  · exact .inl (Blk.turn h hb ht)
  · exact .inr (Blk.turn h hb ht)
theorem Tab.lt {w : World} {tb : Nat} (h : Tab w tb) : tb < w.heap.size := by
  rcases h with h | h
  · exact Blk.lt h
  · exact Blk.lt h
theorem below_undrewN {B n : Nat} {a w : World} (h : Below B (a.drewN n) w) : Below B a w := ⟨h.os, h.tape, h.output, h.size, h.block⟩
theorem below_drewN {B n : Nat} {a w : World} (h : Below B a w) : Below B a (w.drewN n) := ⟨h.os, h.tape, h.output, h.size, h.block⟩
theorem bytes_add (a b : List UInt8) : (bytesOf a) ++ (bytesOf b) = bytesOf (a ++ b) := by
  apply ByteArray.ext
  simp [bytesOf]
set_option maxRecDepth 100000 in
set_option maxHeartbeats 4000000 in
theorem text_any (h : Hd) (hs : h.small) {w : World} {tb : Nat} (ht : Tab w tb) :
    Calls Tryz.prog 77 #[.agg (hcells h), .pointer (some ⟨tb, 0, none⟩)] w fun e w' => e = .returned (.string (bytesOf (headT h))) ∧ Tab w' tb ∧ Turn [tb] w w' := by
  obtain ⟨h1, h2, h3, h4⟩ := hs
  have htl := ht.lt
  unfold hcells
  go_enter Tryz.func77, Tryz.ntmps77
  have hb0 : Below w.heap.size w (w.alloc (.cells #[.int .i64 (h.num : Int), .int .i64 (h.first : Int), .int .i64 (h.beg : Int), .int .i64 (h.en : Int)] 85)) := (Below.refl _ w).alloc (Nat.le_refl _) _
  have b0 : Blk (w.alloc (.cells #[.int .i64 (h.num : Int), .int .i64 (h.first : Int), .int .i64 (h.beg : Int), .int .i64 (h.en : Int)] 85)) w.heap.size 85 #[.int .i64 (h.num : Int), .int .i64 (h.first : Int), .int .i64 (h.beg : Int), .int .i64 (h.en : Int)] := Blk.new _ _ _
  have c0 := b0.cell 0
  have c1 := b0.cell 1
  have c2 := b0.cell 2
  have c3 := b0.cell 3
  have lt := b0.lt
  go_wp2_with fail
  obtain ⟨W0, hW0⟩ : ∃ W0, (w.alloc (.cells #[.int .i64 (h.num : Int), .int .i64 (h.first : Int), .int .i64 (h.beg : Int), .int .i64 (h.en : Int)] 85)) = W0 := ⟨_, rfl⟩
  rw [hW0] at hb0 c0 c1 c2 c3 lt ⊢
  clear hW0 b0
  simp at c0 c1 c2 c3
  have z8 : ∀ n, (bytesOf (beN 8 n)).size = 8 := fun n => by rw [bytesOf_size, beN_length]
  have zm : (⟨#[74, 82, 78, 49]⟩ : ByteArray).size = 4 := rfl
  go_region_held3 (fun w' => w'.cell? ⟨w.heap.size, 0, none⟩ = some (Value.int .i64 (h.num : Int)) ∧ w'.cell? ⟨w.heap.size, 1, none⟩ = some (Value.int .i64 (h.first : Int)) ∧ w'.cell? ⟨w.heap.size, 2, none⟩ = some (Value.int .i64 (h.beg : Int)) ∧ w'.cell? ⟨w.heap.size, 3, none⟩ = some (Value.int .i64 (h.en : Int)))
    (first | go_keep)
    (first
      | (go_at_call_of 47 (Value.int .i64 (h.num : Int)); refine (number_any h.num 8 (by decide) (by decide) _).mono ?_; rintro e w1 ⟨rfl, hb1⟩; have c0 := (hb1.cell (p := ⟨w.heap.size, 0, none⟩) lt).trans c0; have c1 := (hb1.cell (p := ⟨w.heap.size, 1, none⟩) lt).trans c1; have c2 := (hb1.cell (p := ⟨w.heap.size, 2, none⟩) lt).trans c2; have c3 := (hb1.cell (p := ⟨w.heap.size, 3, none⟩) lt).trans c3; have lt := Nat.lt_of_lt_of_le lt hb1.size)
      | (go_at_call_of 47 (Value.int .i64 (h.first : Int)); refine (number_any h.first 8 (by decide) (by decide) _).mono ?_; rintro e w2 ⟨rfl, hb2⟩; have c0 := (hb2.cell (p := ⟨w.heap.size, 0, none⟩) lt).trans c0; have c1 := (hb2.cell (p := ⟨w.heap.size, 1, none⟩) lt).trans c1; have c2 := (hb2.cell (p := ⟨w.heap.size, 2, none⟩) lt).trans c2; have c3 := (hb2.cell (p := ⟨w.heap.size, 3, none⟩) lt).trans c3; have lt := Nat.lt_of_lt_of_le lt hb2.size)
      | (go_at_call_of 47 (Value.int .i64 (h.beg : Int)); refine (number_any h.beg 8 (by decide) (by decide) _).mono ?_; rintro e w3 ⟨rfl, hb3⟩; have c0 := (hb3.cell (p := ⟨w.heap.size, 0, none⟩) lt).trans c0; have c1 := (hb3.cell (p := ⟨w.heap.size, 1, none⟩) lt).trans c1; have c2 := (hb3.cell (p := ⟨w.heap.size, 2, none⟩) lt).trans c2; have c3 := (hb3.cell (p := ⟨w.heap.size, 3, none⟩) lt).trans c3; have lt := Nat.lt_of_lt_of_le lt hb3.size)
      | (go_at_call_of 47 (Value.int .i64 (h.en : Int)); refine (number_any h.en 8 (by decide) (by decide) _).mono ?_; rintro e w4 ⟨rfl, hb4⟩; have c0 := (hb4.cell (p := ⟨w.heap.size, 0, none⟩) lt).trans c0; have c1 := (hb4.cell (p := ⟨w.heap.size, 1, none⟩) lt).trans c1; have c2 := (hb4.cell (p := ⟨w.heap.size, 2, none⟩) lt).trans c2; have c3 := (hb4.cell (p := ⟨w.heap.size, 3, none⟩) lt).trans c3; have lt := Nat.lt_of_lt_of_le lt hb4.size))
  have hB : Below w.heap.size w w4 := by
    have s0 := hb0.size
    have s1 := hb1.size
    have s2 := hb2.size
    have s3 := hb3.size
    simp at s1
    refine (((hb0.trans ((below_undrewN (n := 1) hb1).mono s0)).trans (hb2.mono (by omega))).trans (hb3.mono (by omega))).trans (hb4.mono (by omega))
  have hT4 := ht.below hB htl
  have he : ({ data := #[74, 82, 78, 49] } : ByteArray) ++ bytesOf (beN 8 h.num) ++ bytesOf (beN 8 h.first) ++ bytesOf (beN 8 h.beg) ++ bytesOf (beN 8 h.en) = bytesOf (headL h) := by
    have e0 : ({ data := #[74, 82, 78, 49] } : ByteArray) = bytesOf magicL := rfl
    rw [e0, bytes_add, bytes_add, bytes_add, bytes_add]
    rfl
  rw [he]
  have z36 : (bytesOf (headL h)).size = 36 := by rw [bytesOf_size, headL_length]
  have z4 : (bytesOf (beN 4 (crc (headL h)))).size = 4 := by rw [bytesOf_size, beN_length]
  have hck := checksum_any (bytesOf (headL h)) (by rw [z36]; decide) hT4
  rw [bytesOf_list] at hck
  have HCK := Lib.hid hck
  have HB := Lib.hid hB
  clear hck hB hb0 hb1 hb2 hb3 hb4 he hT4
  clear c0 c1 c2 c3 z8
  go_wp2_with (first
    | (go_at_call 49; refine HCK.out.mono ?_; rintro e w5 ⟨rfl, hD5, ht5⟩; have hT5 : Tab w5 tb := .inr hD5)
    | (go_at_call 47; refine (number_any (crc (headL h)) 4 (by decide) (by decide) _).mono ?_; rintro e w6 ⟨rfl, hb6⟩)
    | (go_at_call 88; refine (Tryz.strings_Repeat (⟨#[0]⟩ : ByteArray) 216 _ (by decide) (by decide)).mono ?_; rintro e w7 ⟨rfl, hb7⟩))
  refine bodyPost_ret (v := .string (bytesOf (headL h) ++ bytesOf (beN 4 (crc (headL h))) ++ { data := (Lib.repeatL [0] 216).toArray })) (by simp [results, Tryz.f77, go_sem]) rfl ?_
  have hz : (⟨(Lib.repeatL ([0] : List UInt8) 216).toArray⟩ : ByteArray) = bytesOf (List.replicate 216 0) := by
    have : Lib.repeatL ([0] : List UInt8) 216 = List.replicate 216 0 := by decide +kernel
    rw [this]; rfl
  have t5 : Turn [tb] w w5 := (Turn.ofBelow HB.out (Nat.le_refl _)).trans ht5 (fun i hi => .inl hi)
  have t6 := t5.below hb6 t5.size
  have t7 := t6.below hb7 t6.size
  refine ⟨?_, (hT5.below hb6 hT5.lt).below hb7 (hT5.below hb6 hT5.lt).lt, t7⟩
  rw [hz, bytes_add, bytes_add]
  rfl
end Go.Proofs.YtfdnpchbbngpjaaGreat
