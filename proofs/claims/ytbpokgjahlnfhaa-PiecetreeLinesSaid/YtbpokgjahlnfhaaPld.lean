/- The law Restores: walked. -/
import Derived.Test.YtbpokgjahlnfhaaPlc
namespace Go.Proofs.Ytbpokgjahlnfhaa
open Go.RowKit Go.Shelf

theorem replace_ok {t : Tr} {a b : Int} (s : ByteArray) (h0 : wrongNo t.size a b = 0) (h1 : t.size + s.size ≤ 65536) : t.replace a b s = (0, t.repl a b s.data.toList) := by
  have hw : ¬ (a < 0 ∨ b < a ∨ (t.size : Int) < b) := fun hh => by unfold wrongNo at h0; rw [if_pos hh] at h0; cases h0
  unfold Tr.replace
  rw [h0, if_neg (by omega), if_neg (by omega)]
theorem restored (B xs : List UInt8) (a b : Nat) (hab : a ≤ b) (hb : b ≤ B.length) :
    ((B.take a ++ xs ++ B.drop b).take a) ++ ((B.take b).drop a) ++ ((B.take a ++ xs ++ B.drop b).drop (a + xs.length)) = B := by
  have l1 : (B.take a).length = a := by simp; omega
  have e1 : (B.take a ++ xs ++ B.drop b).take a = B.take a := by
    rw [List.append_assoc, List.take_append_of_le_length (by omega), List.take_of_length_le (by omega)]
  have e2 : (B.take a ++ xs ++ B.drop b).drop (a + xs.length) = B.drop b := by
    rw [List.drop_append, List.drop_of_length_le (by simp; omega), List.nil_append]
    have : a + xs.length - (B.take a ++ xs).length = 0 := by simp; omega
    rw [this]
    rfl
  rw [e1, e2]
  have e3 : B.take a ++ (B.take b).drop a = B.take b := by
    conv => rhs; rw [← List.take_append_drop a (B.take b)]
    rw [List.take_take, Nat.min_eq_left hab]
  rw [e3, List.take_append_drop]
/-- the old bytes put back -/
theorem restore_ok {t : Tr} {a b : Int} (xs : ByteArray) (h0 : wrongNo t.size a b = 0) (h1 : t.size + t.size + xs.size ≤ 65536) :
    (Tr.replace (t.repl a b xs.data.toList) a (a + (xs.size : Int)) (t.slice a b).2).1 = 0 ∧ (Tr.replace (t.repl a b xs.data.toList) a (a + (xs.size : Int)) (t.slice a b).2).2.str = t.str := by
  have hw : ¬ (a < 0 ∨ b < a ∨ (t.size : Int) < b) := fun hh => by unfold wrongNo at h0; rw [if_pos hh] at h0; cases h0
  have zt : t.size = t.bytes.length := rfl
  have zx : xs.data.toList.length = xs.size := by simp
  have hb := Tr.bytes_repl t a b xs.data.toList (by omega) (by omega)
  have hsl : (t.slice a b).2.data.toList = (t.bytes.take b.toNat).drop a.toNat := by
    unfold Tr.slice Tr.chunks
    rw [if_neg (by omega), ← Tr.vis_bytes]
  have hss : (t.slice a b).2.size ≤ t.size := by
    have : (t.slice a b).2.data.toList.length = (t.slice a b).2.size := by simp
    rw [← this, hsl]
    simp
    omega
  have hsz : (t.repl a b xs.data.toList).size = (t.bytes.take a.toNat).length + xs.size + (t.bytes.drop b.toNat).length := by
    show (t.repl a b xs.data.toList).bytes.length = _
    rw [hb]
    simp only [List.length_append, zx]
  simp only [List.length_take, List.length_drop] at hsz
  have hw2 : wrongNo (t.repl a b xs.data.toList).size a (a + (xs.size : Int)) = 0 := if_neg (by omega)
  rw [replace_ok _ hw2 (by omega)]
  refine ⟨rfl, ?_⟩
  apply bytes_ext
  rw [Tr.str_list, Tr.str_list, Tr.bytes_repl _ _ _ _ (by omega) (by omega), hb, hsl]
  have e : (a + (xs.size : Int)).toNat = a.toNat + xs.data.toList.length := by rw [zx]; omega
  rw [e]
  exact restored t.bytes xs.data.toList a.toNat b.toNat (by omega) (by omega)
theorem slice_no (t : Tr) (a b : Int) : (t.slice a b).1 = wrongNo t.size a b := by
  unfold Tr.slice Tr.chunks
  rcases wrongNo_or t.size a b with h | h
  · rw [if_pos h, h]
  · rw [if_neg (by omega), h]
set_option maxHeartbeats 2000000 in
theorem restores_row {s : ByteArray} {w : World} {v : Value} {l : List OpP} {x : OpP} (hs : s.size ≤ maxLen) (hops : Ops w v l) (hx : x.ok) :
    Calls Try.prog 10 #[.string s, v, .agg #[.int .u8 (x.kind : Int), .int .i64 x.src, .int .i64 x.dst, .string x.text]] w (LawPost w) := by
  have hc := cut300_size s
  obtain ⟨ao, cap, rfl⟩ := hops.shape
  have HO := Lib.hid hops
  obtain ⟨i1, i2, i3, i4, i5⟩ := run_inv (cut300 s) l 60 hc
  obtain ⟨t, n, hR⟩ : ∃ t n, runS (cut300 s) l 60 = (t, n) := ⟨_, _, rfl⟩
  have HRun := Lib.hid (fun (w1 : World) (h : Ops w1 (.slice ao l.length cap) l) => run_any (cut300 s) hc h)
  unfold RunPost at HRun
  rw [hR] at i1 i4 HRun
  simp only at i1 i4 HRun
  obtain ⟨o1, o2, o3, o4⟩ := x
  obtain ⟨hok1, hok2, hok3, hok4⟩ := hx
  simp only at hok1 hok2 hok3 hok4 ⊢
  unfold maxLen at hok4
  have hxs : (min (o4.size : Int) 200).toNat = min o4.size 200 := by omega
  obtain ⟨xs, hxs2⟩ : ∃ xs, o4.extract 0 (min o4.size 200) = xs := ⟨_, rfl⟩
  have hxz : xs.size ≤ 200 := by rw [← hxs2]; exact OpP.cut_size ⟨o1, o2, o3, o4⟩
  have hsz1 : t.str.size = t.size := Tr.str_size t
  have hsz3 : t.str.size ≤ 300000 := by omega
  have HI := Lib.hid i1
  have HOK2 := Lib.hid hok2
  have HOK3 := Lib.hid hok3
  clear hops hR i1 i2 i3 i5 hok2 hok3
  go_enter Try.func10, Try.ntmps10
  go_wp2_with fail
  have hbk := Blk.new w 45 #[.int .u8 (o1 : Int), .int .i64 o2, .int .i64 o3, .string o4]
  have hB0 : Below w.heap.size w (w.alloc (.cells #[.int .u8 (o1 : Int), .int .i64 o2, .int .i64 o3, .string o4] 45)) := (Below.refl _ w).alloc (Nat.le_refl _) _
  obtain ⟨W0, hW0⟩ : ∃ W0, w.alloc (.cells #[.int .u8 (o1 : Int), .int .i64 o2, .int .i64 o3, .string o4] 45) = W0 := ⟨_, rfl⟩
  rw [hW0] at hbk hB0 ⊢
  clear hW0
  refine (known_any W0).mono ?_
  rintro e w1 ⟨rfl, hb1⟩
  have hlt0 := hbk.lt
  have hbk1 := hbk.below hb1 hlt0
  have hlt1 := hbk1.lt
  go_wp2_with (first
      | (go_at_call 20; refine (cut_any s _ hs).mono ?_; rintro e w2 ⟨rfl, rfl⟩)
      | (go_at_call 19; refine (HRun.out _ ((HO.out.below hB0).below hb1)).mono ?_; rintro e w3 ⟨tb, rfl, hT, hb3, htb⟩; have hbk3 := hbk1.below hb3 hlt1; have y1 := hbk3.cell 1; have y2 := hbk3.cell 2; have y3 := hbk3.cell 3; have f3 := hbk3.frozen 3; simp at y1 y2 y3))
  have hF3 : ∀ i, i ∈ [w.heap.size] → ∃ u cs, Blk w3 i u cs ∧ u ≠ 82 := fun i hi => by
    simp at hi
    subst hi
    exact ⟨_, _, hbk3, by decide⟩
  have hs4 : Turn [w.heap.size] w3 (w3.setCell ⟨w.heap.size, 3, none⟩ (.string xs)) := (Turn.refl _ w3).setCell (p := ⟨w.heap.size, 3, none⟩) (.inl (by simp)) _
  have ht4 := hT.turn hs4 (by simp; omega) hF3
  have hb4 : Below w.heap.size w (w3.setCell ⟨w.heap.size, 3, none⟩ (.string xs)) := ((hB0.trans (hb1.mono hB0.size)).trans (hb3.mono (Nat.le_trans hB0.size hb1.size))).trans (hs4.toBelow (by simp) (Nat.le_trans hB0.size (Nat.le_trans hb1.size hb3.size)))
  have hbk4 := hbk3.set_ 3 (.string xs)
  obtain ⟨W4, hW4⟩ : ∃ W4, w3.setCell ⟨w.heap.size, 3, none⟩ (.string xs) = W4 := ⟨_, rfl⟩
  rw [hW4] at ht4 hb4 hbk4 ⊢
  clear hW4 hs4 hF3 y1 y2 y3 f3
  have y1 := hbk4.cell 1
  have y2 := hbk4.cell 2
  have y3 := hbk4.cell 3
  have hlt4 := hbk4.lt
  simp at y1 y2 y3
  have HT4 := Lib.hid ht4
  have HB4 := Lib.hid hb4
  have hne4 : w.heap.size ∉ [tb] := by simp; omega
  have hxm : xs.size ≤ 281474976710656 := by omega
  have hw3 : w.heap.size ≤ tb := by have := hB0.size; have := hb1.size; omega
  clear ht4 hb4 hbk hbk1 hbk3 hbk4 hB0 hb1 hb3 hT hlt0 hlt1 hxs hxs2 hok4 htb
  go_quiet ((first
    | (go_at_call_of 16 (Value.int IntKind.i64 o2); exact (near_any o2 t.str.size _ HOK2.out hsz3).mono fun _ _ ⟨he, hw⟩ => ⟨he, _, hw.symm⟩)
    | (go_at_call_of 16 (Value.int IntKind.i64 o3); exact (near_any o3 t.str.size _ HOK3.out hsz3).mono fun _ _ ⟨he, hw⟩ => ⟨he, _, hw.symm⟩)))
  rw [hsz1]
  obtain ⟨f, hf⟩ : ∃ f, nearP o2 t.size = f := ⟨_, rfl⟩
  obtain ⟨g, hg⟩ : ∃ g, nearP o3 t.size = g := ⟨_, rfl⟩
  rw [hf, hg]
  have hfb := nearP_bd o2 t.size
  have hgb := nearP_bd o3 t.size
  rw [hf] at hfb
  rw [hg] at hgb
  clear hf hg
  have hno := slice_no t f g
  obtain ⟨old, hold⟩ : ∃ old, (t.slice f g).2 = old := ⟨_, rfl⟩
  rcases wrongNo_or t.size f g with h2 | h0
  · rw [h2] at hno
    have hrep : t.replace f g xs = (2, t) := if_pos h2
    have HNO := Lib.hid hno
    have HOLD := Lib.hid hold
    have HREP := Lib.hid hrep
    have hself : (t.str.toList == t.str.toList) = true := by simp
    clear hno hold hrep h2
    go_wp2_with (first
      | (go_at_call 28; refine (tslice_any f g (HT4.out.drewN _) HI.out).mono ?_; rw [HNO.out, HOLD.out]; rintro e w5 ⟨rfl, hb5⟩; have y3 := (hb5.cell (p := ⟨w.heap.size, 3, none⟩) hlt4).trans y3; have HT5 := Lib.hid ((HT4.out.drewN _).below hb5))
      | (go_at_call 18; refine (rep_any f g xs HT5.out HI.out hxm).mono ?_; rw [HREP.out]; rintro e w6 ⟨rfl, j1, j2⟩; have J1 := Lib.hid j1; have J2 := Lib.hid j2; clear j1 j2)
      | (go_at_call 21; refine (tstring_any J1.out HI.out).mono ?_; rintro e w7 ⟨rfl, hb7⟩))
    go_ret
    have b5 := (below_drewN HB4.out nq).trans (hb5.mono HB4.out.size)
    have b6 := b5.trans (J2.out.toBelow (by simp; exact hw3) b5.size)
    exact ⟨rfl, b6.trans (hb7.mono b6.size)⟩
  · rw [h0] at hno
    have hrep := replace_ok xs h0 (by omega)
    obtain ⟨r1, r2⟩ := restore_ok xs h0 (by omega)
    rw [hold] at r1 r2
    have ho1 := rep_okay HI.out f g xs
    rw [hrep] at ho1
    obtain ⟨t1, ht1⟩ : ∃ t1, t.repl f g xs.data.toList = t1 := ⟨_, rfl⟩
    rw [ht1] at hrep r1 r2 ho1
    simp only at ho1
    have ho2 := rep_okay ho1 f (f + (xs.size : Int)) old
    obtain ⟨c, t2, hcr⟩ : ∃ c t2, t1.replace f (f + (xs.size : Int)) old = (c, t2) := ⟨_, _, rfl⟩
    rw [hcr] at r1 r2 ho2
    simp only at r1 r2 ho2
    subst r1
    have hoz : old.size ≤ 281474976710656 := by
      have : old.size ≤ t.size := by
        rw [← hold]
        have e : (t.slice f g).2.data.toList.length = (t.slice f g).2.size := by simp
        rw [← e]
        unfold Tr.slice Tr.chunks
        rw [if_neg (by omega)]
        exact seg_nil t f g
      omega
    have HNO := Lib.hid hno
    have HOLD := Lib.hid hold
    have HREP := Lib.hid hrep
    have HCR := Lib.hid hcr
    have HO1 := Lib.hid ho1
    have HO2 := Lib.hid ho2
    have hself : (t.str.toList == t.str.toList) = true := by simp
    clear hno hold hrep hcr ho1 ho2 ht1 h0
    go_wp2_with (first
      | (go_at_call 28; refine (tslice_any f g (HT4.out.drewN _) HI.out).mono ?_; rw [HNO.out, HOLD.out]; rintro e w5 ⟨rfl, hb5⟩; have y3 := (hb5.cell (p := ⟨w.heap.size, 3, none⟩) hlt4).trans y3; have hlt5 := Nat.lt_of_lt_of_le hlt4 hb5.size; have HT5 := Lib.hid ((HT4.out.drewN _).below hb5))
      | (go_at_call_of 18 (Value.int IntKind.i64 g); refine (rep_any f g xs HT5.out HI.out hxm).mono ?_; rw [HREP.out]; rintro e w6 ⟨rfl, j1, j2⟩; have y3 := (j2.cell (p := ⟨w.heap.size, 3, none⟩) hlt5 hne4).trans y3; have J1 := Lib.hid j1; have J2 := Lib.hid j2; clear j1 j2)
      | (go_at_call_of 18 (Value.string old); refine (rep_any f (f + (xs.size : Int)) old J1.out HO1.out hoz).mono ?_; rw [HCR.out]; rintro e w8 ⟨rfl, j3, j4⟩; have J3 := Lib.hid j3; have J4 := Lib.hid j4; clear j3 j4)
      | (go_at_call 21; refine (tstring_any J3.out HO2.out).mono ?_; rw [r2]; rintro e w7 ⟨rfl, hb7⟩))
    go_ret
    have b5 := (below_drewN HB4.out nq).trans (hb5.mono HB4.out.size)
    have b6 := b5.trans (J2.out.toBelow (by simp; exact hw3) b5.size)
    have b8 := b6.trans (J4.out.toBelow (by simp; exact hw3) b6.size)
    exact ⟨rfl, b8.trans (hb7.mono b8.size)⟩
end Go.Proofs.Ytbpokgjahlnfhaa
