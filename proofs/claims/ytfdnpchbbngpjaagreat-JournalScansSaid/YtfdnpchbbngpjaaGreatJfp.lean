/- readHeader in every case; find; Format. -/
import Derived.Test.YtfdnpchbbngpjaaGreatJrh
namespace Go.Proofs.YtfdnpchbbngpjaaGreat
open Go.RowKit Go.Maps
theorem rhead_any {w : World} {vb tb : Nat} {st : VS} {F : List Nat} (hP : Pr w vb st tb F) (hd : st.down = false) {m : Nat} (hl : st.dur.length = m + 2) (k : Nat) (hk : k < 2) :
    Calls Tryz.prog 80 #[.pointer (some ⟨vb, 0, none⟩), .pointer (some ⟨tb, 0, none⟩), .int .i64 (k : Int)] w fun e w' => e = .returned (.tuple #[.agg (hcells (readHd (st.sct k) k (256 * m)).1), .bool (readHd (st.sct k) k (256 * m)).2]) ∧ Pr w' vb st tb F ∧ Turn [tb] w w' ∧ (Tb w tb 1 0 crc8 ∨ (readHd (st.sct k) k (256 * m)).2 = true → Tb w' tb 1 0 crc8) := by
  by_cases h1 : ((st.sct k).take 4 == magicL) = true
  · by_cases h2 : (field (st.sct k) 36 4 == crc ((st.sct k).take 36)) = true
    · exact (rhead_c hP hd hl k hk h1 h2).mono fun e w' ⟨a, b, c, d⟩ => ⟨a, b, c, fun _ => d⟩
    · have e : readHd (st.sct k) k (256 * m) = (Hd.nil, false) := by
        unfold readHd
        rw [if_pos (by unfold hdGood; rw [h1, Bool.eq_false_iff.2 h2]; rfl)]
      rw [e]
      exact (rhead_b hP hd hl k hk h1 (Bool.eq_false_iff.2 h2)).mono fun e w' ⟨a, b, c, d⟩ => ⟨a, b, c, fun _ => d⟩
  · have e : readHd (st.sct k) k (256 * m) = (Hd.nil, false) := by
      unfold readHd
      rw [if_pos (by unfold hdGood; rw [Bool.eq_false_iff.2 h1]; rfl)]
    rw [e]
    exact (rhead_a hP hd hl k hk (Bool.eq_false_iff.2 h1)).mono fun e w' ⟨a, b, c, d⟩ => ⟨a, b, c, fun h => h.elim d (fun h => by cases h)⟩
end Go.Proofs.YtfdnpchbbngpjaaGreat
namespace Go.Proofs.YtfdnpchbbngpjaaGreat
attribute [local go_sem ↓] Go.wp_at_zero Go.wp_at_succ
open Go.RowKit Go.Maps

theorem Blk.head4 {w : World} {b : Nat} {t : TypeId} {a0 a1 a2 a3 : Value} (h : Blk w b t #[a0, a1, a2, a3]) (v0 v1 v2 v3 : Value) :
    Blk ((((w.setCell ⟨b, 0, none⟩ v0).setCell ⟨b, 1, none⟩ v1).setCell ⟨b, 2, none⟩ v2).setCell ⟨b, 3, none⟩ v3) b t #[v0, v1, v2, v3] := ((((h.set_ 0 v0).set_ 1 v1).set_ 2 v2).set_ 3 v3)
theorem Turn.head4 (w : World) (b : Nat) (v0 v1 v2 v3 : Value) : Turn [b] w ((((w.setCell ⟨b, 0, none⟩ v0).setCell ⟨b, 1, none⟩ v1).setCell ⟨b, 2, none⟩ v2).setCell ⟨b, 3, none⟩ v3) :=
  ((((Turn.refl [b] w).setCell (.inl (by simp)) v0).setCell (.inl (by simp)) v1).setCell (.inl (by simp)) v2).setCell (.inl (by simp)) v3
set_option maxRecDepth 100000 in
set_option maxHeartbeats 4000000 in
theorem find_any {w : World} {vb tb : Nat} {st : VS} {F : List Nat} (hP : Pr w vb st tb F) (hd : st.down = false) {m : Nat} (hl : st.dur.length = m + 2) :
    Calls Tryz.prog 62 #[.pointer (some ⟨vb, 0, none⟩), .pointer (some ⟨tb, 0, none⟩)] w fun e w' => e = .returned (.tuple #[.agg (hcells (findHd (st.sct 0) (st.sct 1) (256 * m)).1), .bool (findHd (st.sct 0) (st.sct 1) (256 * m)).2]) ∧ Pr w' vb st tb F ∧ Turn [tb] w w' ∧ ((findHd (st.sct 0) (st.sct 1) (256 * m)).2 = true → Tb w' tb 1 0 crc8) := by
  obtain ⟨H0, o0, hH0⟩ : ∃ H o, readHd (st.sct 0) 0 (256 * m) = (H, o) := ⟨_, _, rfl⟩
  obtain ⟨H1, o1, hH1⟩ : ∃ H o, readHd (st.sct 1) 1 (256 * m) = (H, o) := ⟨_, _, rfl⟩
  have c0 := fun (w : World) (hP : Pr w vb st tb F) => rhead_any hP hd hl 0 (by decide)
  have c1 := fun (w : World) (hP : Pr w vb st tb F) => rhead_any hP hd hl 1 (by decide)
  simp only [hH0, hcells] at c0
  simp only [hH1, hcells] at c1
  have C0 := Lib.hid c0
  have C1 := Lib.hid c1
  clear c0 c1
  have hF : findHd (st.sct 0) (st.sct 1) (256 * m) = if o1 && (!o0 || decide (H0.num < H1.num)) then (H1, true) else (H0, o0) := by
    unfold findHd; rw [hH0, hH1]
  rw [hF]
  clear hF hH0 hH1
  have b0 : Blk (w.alloc (.cells #[.int .i64 0, .int .i64 0, .int .i64 0, .int .i64 0] 85)) w.heap.size 85 #[.int .i64 0, .int .i64 0, .int .i64 0, .int .i64 0] := Blk.new _ _ _
  have hlt0 := b0.lt
  have htl := hP.tab.lt
  have hP0 := hP.below ((Below.refl _ w).alloc (Nat.le_refl _) (.cells #[.int .i64 0, .int .i64 0, .int .i64 0, .int .i64 0] 85))
  have hne0 : w.heap.size ∉ [tb] := by simp; omega
  obtain ⟨q, hq⟩ : ∃ q, decide (H0.num < H1.num) = q := ⟨_, rfl⟩
  have hqi : decide ((H0.num : Int) < (H1.num : Int)) = q := by rw [← hq, decide_eq_decide]; omega
  rw [hq]
  have fin : ∀ (W : World) (p0 : Pr W vb st tb F) (t0 : Turn [tb] w W) (b0 : Blk W w.heap.size 85 #[.int .i64 0, .int .i64 0, .int .i64 0, .int .i64 0]) (H : Hd),
      Blk ((((W.setCell ⟨w.heap.size, 0, none⟩ (.int .i64 (H.num : Int))).setCell ⟨w.heap.size, 1, none⟩ (.int .i64 (H.first : Int))).setCell ⟨w.heap.size, 2, none⟩ (.int .i64 (H.beg : Int))).setCell ⟨w.heap.size, 3, none⟩ (.int .i64 (H.en : Int))) w.heap.size 85 (hcells H) ∧
      Pr ((((W.setCell ⟨w.heap.size, 0, none⟩ (.int .i64 (H.num : Int))).setCell ⟨w.heap.size, 1, none⟩ (.int .i64 (H.first : Int))).setCell ⟨w.heap.size, 2, none⟩ (.int .i64 (H.beg : Int))).setCell ⟨w.heap.size, 3, none⟩ (.int .i64 (H.en : Int))) vb st tb F ∧
      Turn [tb] w ((((W.setCell ⟨w.heap.size, 0, none⟩ (.int .i64 (H.num : Int))).setCell ⟨w.heap.size, 1, none⟩ (.int .i64 (H.first : Int))).setCell ⟨w.heap.size, 2, none⟩ (.int .i64 (H.beg : Int))).setCell ⟨w.heap.size, 3, none⟩ (.int .i64 (H.en : Int))) ∧
      (Tb W tb 1 0 crc8 → Tb ((((W.setCell ⟨w.heap.size, 0, none⟩ (.int .i64 (H.num : Int))).setCell ⟨w.heap.size, 1, none⟩ (.int .i64 (H.first : Int))).setCell ⟨w.heap.size, 2, none⟩ (.int .i64 (H.beg : Int))).setCell ⟨w.heap.size, 3, none⟩ (.int .i64 (H.en : Int))) tb 1 0 crc8) := fun W p0 t0 b0 H => by
    have u := Turn.head4 W w.heap.size (.int .i64 (H.num : Int)) (.int .i64 (H.first : Int)) (.int .i64 (H.beg : Int)) (.int .i64 (H.en : Int))
    refine ⟨b0.head4 _ _ _ _, ⟨p0.vol.turn u (fun i hi => ?_), p0.tab.turn u (by simp; omega), p0.off⟩, t0.trans u (fun i hi => by simp at hi; subst hi; exact .inr (Nat.le_refl _)), fun h => Blk.turn h u (by simp; omega)⟩
    have := hP.vol.lt i hi
    simp; omega
  have FIN := Lib.hid fin
  clear fin hP
  rcases o1 with _ | _ <;> rcases o0 with _ | _ <;> rcases q with _ | _ <;> simp only [Bool.and_true, Bool.and_false, Bool.not_true, Bool.not_false, Bool.or_true, Bool.or_false, if_true, Bool.false_eq_true, if_false]
  all_goals go_enter Tryz.func62, Tryz.ntmps62
  all_goals go_wp2_with (first
    | (go_at_call_of 80 (Value.int .i64 0); refine (C0.out _ hP0).mono ?_; rintro e w1 ⟨rfl, hP1, ht1, hD1⟩)
    | (go_at_call_of 80 (Value.int .i64 1); refine (C1.out _ (hP1.below ((Below.refl _ w1).alloc (Nat.le_refl _) _))).mono ?_; rintro e w2 ⟨rfl, hP2, ht2, hD2⟩
       have x1 : Blk w1 w.heap.size _ _ := b0.turn ht1 hne0
       have hl1 := x1.lt
       have hne1 : w1.heap.size ∉ [tb] := by simp; omega
       have y2 : Blk w2 w1.heap.size _ _ := Blk.turn (Blk.new w1 85 #[.int .i64 (H0.num : Int), .int .i64 (H0.first : Int), .int .i64 (H0.beg : Int), .int .i64 (H0.en : Int)]) ht2 hne1
       have x2 : Blk w2 w.heap.size _ _ := (x1.alloc (.cells #[.int .i64 (H0.num : Int), .int .i64 (H0.first : Int), .int .i64 (H0.beg : Int), .int .i64 (H0.en : Int)] 85)).turn ht2 hne0
       have lx := x2.lt
       have ly := y2.lt
       have cx0 := x2.cell 0
       have cx1 := x2.cell 1
       have cx2 := x2.cell 2
       have cx3 := x2.cell 3
       have fx0 := x2.frozen 0
       have fx1 := x2.frozen 1
       have fx2 := x2.frozen 2
       have fx3 := x2.frozen 3
       have cy0 := y2.cell 0
       have cy1 := y2.cell 1
       have cy2 := y2.cell 2
       have cy3 := y2.cell 3
       simp at cx0 cx1 cx2 cx3 cy0 cy1 cy2 cy3
       have X2 := Lib.hid x2
       have HDD := Lib.hid (And.intro hD1 hD2)
       have t2 : Hid (Turn [tb] w w2) := Lib.hid ((((Turn.refl [tb] w).alloc _).trans ((ht1.alloc _).trans ht2 (fun i hi => .inl hi)) (fun i hi => .inl hi)))))
  · obtain ⟨f1, f2, f3, f4⟩ := FIN.out _ hP2 t2.out X2.out H0
    have f1 := f1.alloc (.cells #[.int .i64 (H1.num : Int), .int .i64 (H1.first : Int), .int .i64 (H1.beg : Int), .int .i64 (H1.en : Int)] 85)
    have f2 := f2.below ((Below.refl _ _).alloc (Nat.le_refl _) (.cells #[.int .i64 (H1.num : Int), .int .i64 (H1.first : Int), .int .i64 (H1.beg : Int), .int .i64 (H1.en : Int)] 85))
    have f3 := f3.alloc (.cells #[.int .i64 (H1.num : Int), .int .i64 (H1.first : Int), .int .i64 (H1.beg : Int), .int .i64 (H1.en : Int)] 85)
    have f4 := fun h => Blk.alloc (f4 h) (.cells #[.int .i64 (H1.num : Int), .int .i64 (H1.first : Int), .int .i64 (H1.beg : Int), .int .i64 (H1.en : Int)] 85)
    have r0 := f1.cell 0
    have r1 := f1.cell 1
    have r2 := f1.cell 2
    have r3 := f1.cell 3
    generalize (((((w2.setCell _ _).setCell _ _).setCell _ _).setCell _ _).alloc _) = WF at f1 f2 f3 f4 r0 r1 r2 r3 ⊢
    unfold hcells at r0 r1 r2 r3
    simp at r0 r1 r2 r3
    clear C0 C1 FIN
    exact bodyPost_ret (v := .tuple #[.agg (hcells H0), .bool false]) (by simp [results, Tryz.f62, go_sem, r0, r1, r2, r3]; rfl) rfl ⟨rfl, f2, f3, fun h => by cases h⟩
  · obtain ⟨f1, f2, f3, f4⟩ := FIN.out _ hP2 t2.out X2.out H0
    have f1 := f1.alloc (.cells #[.int .i64 (H1.num : Int), .int .i64 (H1.first : Int), .int .i64 (H1.beg : Int), .int .i64 (H1.en : Int)] 85)
    have f2 := f2.below ((Below.refl _ _).alloc (Nat.le_refl _) (.cells #[.int .i64 (H1.num : Int), .int .i64 (H1.first : Int), .int .i64 (H1.beg : Int), .int .i64 (H1.en : Int)] 85))
    have f3 := f3.alloc (.cells #[.int .i64 (H1.num : Int), .int .i64 (H1.first : Int), .int .i64 (H1.beg : Int), .int .i64 (H1.en : Int)] 85)
    have f4 := fun h => Blk.alloc (f4 h) (.cells #[.int .i64 (H1.num : Int), .int .i64 (H1.first : Int), .int .i64 (H1.beg : Int), .int .i64 (H1.en : Int)] 85)
    have r0 := f1.cell 0
    have r1 := f1.cell 1
    have r2 := f1.cell 2
    have r3 := f1.cell 3
    generalize (((((w2.setCell _ _).setCell _ _).setCell _ _).setCell _ _).alloc _) = WF at f1 f2 f3 f4 r0 r1 r2 r3 ⊢
    unfold hcells at r0 r1 r2 r3
    simp at r0 r1 r2 r3
    clear C0 C1 FIN
    exact bodyPost_ret (v := .tuple #[.agg (hcells H0), .bool false]) (by simp [results, Tryz.f62, go_sem, r0, r1, r2, r3]; rfl) rfl ⟨rfl, f2, f3, fun h => by cases h⟩
  · obtain ⟨f1, f2, f3, f4⟩ := FIN.out _ hP2 t2.out X2.out H0
    have f1 := f1.alloc (.cells #[.int .i64 (H1.num : Int), .int .i64 (H1.first : Int), .int .i64 (H1.beg : Int), .int .i64 (H1.en : Int)] 85)
    have f2 := f2.below ((Below.refl _ _).alloc (Nat.le_refl _) (.cells #[.int .i64 (H1.num : Int), .int .i64 (H1.first : Int), .int .i64 (H1.beg : Int), .int .i64 (H1.en : Int)] 85))
    have f3 := f3.alloc (.cells #[.int .i64 (H1.num : Int), .int .i64 (H1.first : Int), .int .i64 (H1.beg : Int), .int .i64 (H1.en : Int)] 85)
    have f4 := fun h => Blk.alloc (f4 h) (.cells #[.int .i64 (H1.num : Int), .int .i64 (H1.first : Int), .int .i64 (H1.beg : Int), .int .i64 (H1.en : Int)] 85)
    have r0 := f1.cell 0
    have r1 := f1.cell 1
    have r2 := f1.cell 2
    have r3 := f1.cell 3
    generalize (((((w2.setCell _ _).setCell _ _).setCell _ _).setCell _ _).alloc _) = WF at f1 f2 f3 f4 r0 r1 r2 r3 ⊢
    unfold hcells at r0 r1 r2 r3
    simp at r0 r1 r2 r3
    clear C0 C1 FIN
    exact bodyPost_ret (v := .tuple #[.agg (hcells H0), .bool true]) (by simp [results, Tryz.f62, go_sem, r0, r1, r2, r3]; rfl) rfl ⟨rfl, f2, f3, fun _ => f4 (by first | exact HDD.out.2 (.inr (by decide)) | exact HDD.out.2 (.inl (Blk.alloc (HDD.out.1 (.inr (by decide))) _)))⟩
  · obtain ⟨f1, f2, f3, f4⟩ := FIN.out _ hP2 t2.out X2.out H0
    have f1 := f1.alloc (.cells #[.int .i64 (H1.num : Int), .int .i64 (H1.first : Int), .int .i64 (H1.beg : Int), .int .i64 (H1.en : Int)] 85)
    have f2 := f2.below ((Below.refl _ _).alloc (Nat.le_refl _) (.cells #[.int .i64 (H1.num : Int), .int .i64 (H1.first : Int), .int .i64 (H1.beg : Int), .int .i64 (H1.en : Int)] 85))
    have f3 := f3.alloc (.cells #[.int .i64 (H1.num : Int), .int .i64 (H1.first : Int), .int .i64 (H1.beg : Int), .int .i64 (H1.en : Int)] 85)
    have f4 := fun h => Blk.alloc (f4 h) (.cells #[.int .i64 (H1.num : Int), .int .i64 (H1.first : Int), .int .i64 (H1.beg : Int), .int .i64 (H1.en : Int)] 85)
    have r0 := f1.cell 0
    have r1 := f1.cell 1
    have r2 := f1.cell 2
    have r3 := f1.cell 3
    generalize (((((w2.setCell _ _).setCell _ _).setCell _ _).setCell _ _).alloc _) = WF at f1 f2 f3 f4 r0 r1 r2 r3 ⊢
    unfold hcells at r0 r1 r2 r3
    simp at r0 r1 r2 r3
    clear C0 C1 FIN
    exact bodyPost_ret (v := .tuple #[.agg (hcells H0), .bool true]) (by simp [results, Tryz.f62, go_sem, r0, r1, r2, r3]; rfl) rfl ⟨rfl, f2, f3, fun _ => f4 (by first | exact HDD.out.2 (.inr (by decide)) | exact HDD.out.2 (.inl (Blk.alloc (HDD.out.1 (.inr (by decide))) _)))⟩
  · obtain ⟨f1, f2, f3, f4⟩ := FIN.out _ hP2 t2.out X2.out H1
    have f1 := f1.alloc (.cells #[.int .i64 (H1.num : Int), .int .i64 (H1.first : Int), .int .i64 (H1.beg : Int), .int .i64 (H1.en : Int)] 85)
    have f2 := f2.below ((Below.refl _ _).alloc (Nat.le_refl _) (.cells #[.int .i64 (H1.num : Int), .int .i64 (H1.first : Int), .int .i64 (H1.beg : Int), .int .i64 (H1.en : Int)] 85))
    have f3 := f3.alloc (.cells #[.int .i64 (H1.num : Int), .int .i64 (H1.first : Int), .int .i64 (H1.beg : Int), .int .i64 (H1.en : Int)] 85)
    have f4 := fun h => Blk.alloc (f4 h) (.cells #[.int .i64 (H1.num : Int), .int .i64 (H1.first : Int), .int .i64 (H1.beg : Int), .int .i64 (H1.en : Int)] 85)
    have r0 := f1.cell 0
    have r1 := f1.cell 1
    have r2 := f1.cell 2
    have r3 := f1.cell 3
    generalize (((((w2.setCell _ _).setCell _ _).setCell _ _).setCell _ _).alloc _) = WF at f1 f2 f3 f4 r0 r1 r2 r3 ⊢
    unfold hcells at r0 r1 r2 r3
    simp at r0 r1 r2 r3
    clear C0 C1 FIN
    exact bodyPost_ret (v := .tuple #[.agg (hcells H1), .bool true]) (by simp [results, Tryz.f62, go_sem, r0, r1, r2, r3]; rfl) rfl ⟨rfl, f2, f3, fun _ => f4 (by first | exact HDD.out.2 (.inr (by decide)) | exact HDD.out.2 (.inl (Blk.alloc (HDD.out.1 (.inr (by decide))) _)))⟩
  · obtain ⟨f1, f2, f3, f4⟩ := FIN.out _ hP2 t2.out X2.out H1
    have f1 := f1.alloc (.cells #[.int .i64 (H1.num : Int), .int .i64 (H1.first : Int), .int .i64 (H1.beg : Int), .int .i64 (H1.en : Int)] 85)
    have f2 := f2.below ((Below.refl _ _).alloc (Nat.le_refl _) (.cells #[.int .i64 (H1.num : Int), .int .i64 (H1.first : Int), .int .i64 (H1.beg : Int), .int .i64 (H1.en : Int)] 85))
    have f3 := f3.alloc (.cells #[.int .i64 (H1.num : Int), .int .i64 (H1.first : Int), .int .i64 (H1.beg : Int), .int .i64 (H1.en : Int)] 85)
    have f4 := fun h => Blk.alloc (f4 h) (.cells #[.int .i64 (H1.num : Int), .int .i64 (H1.first : Int), .int .i64 (H1.beg : Int), .int .i64 (H1.en : Int)] 85)
    have r0 := f1.cell 0
    have r1 := f1.cell 1
    have r2 := f1.cell 2
    have r3 := f1.cell 3
    generalize (((((w2.setCell _ _).setCell _ _).setCell _ _).setCell _ _).alloc _) = WF at f1 f2 f3 f4 r0 r1 r2 r3 ⊢
    unfold hcells at r0 r1 r2 r3
    simp at r0 r1 r2 r3
    clear C0 C1 FIN
    exact bodyPost_ret (v := .tuple #[.agg (hcells H1), .bool true]) (by simp [results, Tryz.f62, go_sem, r0, r1, r2, r3]; rfl) rfl ⟨rfl, f2, f3, fun _ => f4 (by first | exact HDD.out.2 (.inr (by decide)) | exact HDD.out.2 (.inl (Blk.alloc (HDD.out.1 (.inr (by decide))) _)))⟩
  · obtain ⟨f1, f2, f3, f4⟩ := FIN.out _ hP2 t2.out X2.out H0
    have f1 := f1.alloc (.cells #[.int .i64 (H1.num : Int), .int .i64 (H1.first : Int), .int .i64 (H1.beg : Int), .int .i64 (H1.en : Int)] 85)
    have f2 := f2.below ((Below.refl _ _).alloc (Nat.le_refl _) (.cells #[.int .i64 (H1.num : Int), .int .i64 (H1.first : Int), .int .i64 (H1.beg : Int), .int .i64 (H1.en : Int)] 85))
    have f3 := f3.alloc (.cells #[.int .i64 (H1.num : Int), .int .i64 (H1.first : Int), .int .i64 (H1.beg : Int), .int .i64 (H1.en : Int)] 85)
    have f4 := fun h => Blk.alloc (f4 h) (.cells #[.int .i64 (H1.num : Int), .int .i64 (H1.first : Int), .int .i64 (H1.beg : Int), .int .i64 (H1.en : Int)] 85)
    have r0 := f1.cell 0
    have r1 := f1.cell 1
    have r2 := f1.cell 2
    have r3 := f1.cell 3
    generalize (((((w2.setCell _ _).setCell _ _).setCell _ _).setCell _ _).alloc _) = WF at f1 f2 f3 f4 r0 r1 r2 r3 ⊢
    unfold hcells at r0 r1 r2 r3
    simp at r0 r1 r2 r3
    clear C0 C1 FIN
    exact bodyPost_ret (v := .tuple #[.agg (hcells H0), .bool true]) (by simp [results, Tryz.f62, go_sem, r0, r1, r2, r3]; rfl) rfl ⟨rfl, f2, f3, fun _ => f4 (by first | exact HDD.out.2 (.inr (by decide)) | exact HDD.out.2 (.inl (Blk.alloc (HDD.out.1 (.inr (by decide))) _)))⟩
  · obtain ⟨f1, f2, f3, f4⟩ := FIN.out _ hP2 t2.out X2.out H1
    have f1 := f1.alloc (.cells #[.int .i64 (H1.num : Int), .int .i64 (H1.first : Int), .int .i64 (H1.beg : Int), .int .i64 (H1.en : Int)] 85)
    have f2 := f2.below ((Below.refl _ _).alloc (Nat.le_refl _) (.cells #[.int .i64 (H1.num : Int), .int .i64 (H1.first : Int), .int .i64 (H1.beg : Int), .int .i64 (H1.en : Int)] 85))
    have f3 := f3.alloc (.cells #[.int .i64 (H1.num : Int), .int .i64 (H1.first : Int), .int .i64 (H1.beg : Int), .int .i64 (H1.en : Int)] 85)
    have f4 := fun h => Blk.alloc (f4 h) (.cells #[.int .i64 (H1.num : Int), .int .i64 (H1.first : Int), .int .i64 (H1.beg : Int), .int .i64 (H1.en : Int)] 85)
    have r0 := f1.cell 0
    have r1 := f1.cell 1
    have r2 := f1.cell 2
    have r3 := f1.cell 3
    generalize (((((w2.setCell _ _).setCell _ _).setCell _ _).setCell _ _).alloc _) = WF at f1 f2 f3 f4 r0 r1 r2 r3 ⊢
    unfold hcells at r0 r1 r2 r3
    simp at r0 r1 r2 r3
    clear C0 C1 FIN
    exact bodyPost_ret (v := .tuple #[.agg (hcells H1), .bool true]) (by simp [results, Tryz.f62, go_sem, r0, r1, r2, r3]; rfl) rfl ⟨rfl, f2, f3, fun _ => f4 (by first | exact HDD.out.2 (.inr (by decide)) | exact HDD.out.2 (.inl (Blk.alloc (HDD.out.1 (.inr (by decide))) _)))⟩
end Go.Proofs.YtfdnpchbbngpjaaGreat
namespace Go.Proofs.YtfdnpchbbngpjaaGreat
attribute [local go_sem ↓] Go.wp_at_zero Go.wp_at_succ
open Go.RowKit Go.Maps

theorem tab_zero : Tryz.zeroCells125 = tcells [.int .u32 0, .int .i32 0, .int .u32 0] (fun _ => 0) := by kernel_rfl
theorem Tab.new (w : World) : Tab (w.alloc (.cells Tryz.zeroCells125 125)) w.heap.size := by
  rw [tab_zero]
  exact .inl (Blk.new w _ _)
theorem Pr.new {w : World} {vb : Nat} {st : VS} {F : List Nat} (hV : VolF w vb st F) : Pr (w.alloc (.cells Tryz.zeroCells125 125)) vb st w.heap.size F :=
  ⟨hV.below ((Below.refl _ w).alloc (Nat.le_refl _) _), Tab.new w, fun hm => by have := hV.lt _ hm; omega⟩
set_option maxRecDepth 100000 in
set_option maxHeartbeats 4000000 in
theorem format_any {w : World} {vb : Nat} {st : VS} {F : List Nat} (hV : VolF w vb st F) (hd : st.down = false) {m : Nat} (hl : st.dur.length = m + 2) (hm : 1 ≤ m) (hsm : (findHd (st.sct 0) (st.sct 1) (256 * m)).1.num < 281474976710655) :
    Calls Tryz.prog 31 #[.pointer (some ⟨vb, 0, none⟩)] w fun e w' => e = .returned (.int .i64 ((st.putHd (JS.blank (findHd (st.sct 0) (st.sct 1) (256 * m)).1.num).hd).1 : Int)) ∧ Step F w w' vb (st.putHd (JS.blank (findHd (st.sct 0) (st.sct 1) (256 * m)).1.num).hd).2 := by
  have hchk : st.chk = 0 := by unfold VS.chk; rw [hd, if_neg (by decide), if_neg (by omega)]
  have HC := Lib.hid hchk
  clear hchk
  obtain ⟨H, o, hH⟩ : ∃ H o, findHd (st.sct 0) (st.sct 1) (256 * m) = (H, o) := ⟨_, _, rfl⟩
  have hfind := fun (w : World) (tb : Nat) (hP : Pr w vb st tb F) => find_any hP hd hl
  rw [hH] at hsm ⊢
  simp only [hH, hcells] at hfind
  have HFD := Lib.hid hfind
  clear hfind hH
  simp only at hsm ⊢
  have hj := fun (w : World) (tb : Nat) (hP : Pr w vb st tb F) => jwrite_any (JS.blank H.num).hd ⟨by show H.num + 1 < _; omega, by show 1 < _; decide, by show 0 < _; decide, by show 0 < _; decide⟩ hP
  have e : hcells (JS.blank H.num).hd = #[.int .i64 ((H.num : Int) + 1), .int .i64 1, .int .i64 0, .int .i64 0] := by unfold hcells; rfl
  rw [e] at hj
  have HJ := Lib.hid hj
  clear hj e
  have hP0 := Pr.new hV
  have hlF := hV.lt
  go_enter Tryz.func31, Tryz.ntmps31
  go_wp2_with (first
    | (go_at_call 61; refine (check_any hV).mono ?_; rw [HC.out]; rintro e w' ⟨rfl, rfl⟩)
    | (go_at_call 62; refine (HFD.out _ _ hP0).mono ?_; rintro e w1 ⟨rfl, hP1, ht1, _⟩)
    | (go_at_call 52; refine (HJ.out _ _ (hP1.below ((Below.refl _ w1).alloc (Nat.le_refl _) _))).mono ?_; rintro e w2 ⟨rfl, hs2⟩))
  go_ret
  refine ⟨rfl, ?_⟩
  obtain ⟨F2, k1, k2, k3⟩ := hs2
  have t1 : Turn [w.heap.size] w w1 := ((Turn.refl _ w).alloc _).trans ht1 (fun i hi => .inl hi)
  have t2 := (t1.alloc (.cells #[.int .i64 (H.num : Int), .int .i64 (H.first : Int), .int .i64 (H.beg : Int), .int .i64 (H.en : Int)] 85))
  have t3 : Turn F w w2 := by
    refine ⟨k2.os.trans t2.os, k2.tape.trans t2.tape, k2.output.trans t2.output, Nat.le_trans t2.size k2.size, fun i hi hn => ?_⟩
    have e1 := t2.block i hi (by simp; omega)
    exact (k2.block i (Nat.lt_of_lt_of_le hi t2.size) (by simp; exact ⟨by omega, hn⟩)).trans e1
  refine ⟨F2, k1.vol, t3, fun i hi => ?_⟩
  rcases k3 i hi with e | e
  · exact .inl e
  · exact .inr (Nat.le_trans t2.size e)
end Go.Proofs.YtfdnpchbbngpjaaGreat
