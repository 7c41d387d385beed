/- A journal's Append, Read and From. -/
import Derived.Test.YtfdnpchbbngpjaaGreatJjr
namespace Go.Proofs.YtfdnpchbbngpjaaGreat
attribute [local go_sem ↓] Go.wp_at_zero Go.wp_at_succ
open Go.RowKit Go.Maps

theorem rec_info : (Tryz.prog.info? 95).map (fun i => (i.zero, i.size, i.bytes)) = some (some (.agg #[.int .i64 0, .string ⟨#[]⟩]), 2, 24) := by kernel_rfl
def JS.push (S : JS) (d : ByteArray) : JS := { S with recs := S.recs ++ [(S.next, d)] }
theorem JS.push_en {S : JS} (h : S.comm ≤ S.recs.length) (d : ByteArray) : (S.push d).en = S.en := by
  show rend S.beg ((S.recs ++ [(S.next, d)]).take S.comm) = rend S.beg (S.recs.take S.comm)
  rw [List.take_append_of_le_length h]
theorem JS.push_next (S : JS) (d : ByteArray) : (S.push d).next = S.next + 16 + d.size := rend_snoc _ _ _
theorem Jr.jb_ne {w : World} {jb vb tb : Nat} {S : JS} {br : Bool} {rv : Value} {hen : Nat} (h : Jr w jb vb tb S br rv hen) : rv.ownBlock ≠ some jb := own_blk_ne h.row h.blk (by decide)
theorem Jr.pushed {w w1 w2 : World} {jb vb tb : Nat} {S : JS} {br : Bool} {rv : Value} {hen : Nat} (h : Jr w jb vb tb S br rv hen) (hcm : S.comm ≤ S.recs.length) {d : ByteArray} (hb : Below w.heap.size w w1)
    (hg : w1.grownBy w2 rv.ownBlock) {g cap : Nat} (hown : w2.ownsRow 0 95 2 (.slice (some ⟨g, 0, none⟩) (S.recs.length + 1) cap) (S.recs.length + 1) (pcells S.recs ++ [.int .i64 (S.next : Int), .string d]))
    (hat : rv.ownBlock = some g ∨ w.heap.size ≤ g) {u : Int} (hu : u = ((S.next + 16 + d.size : Nat) : Int)) :
    Jr ((w2.setCell ⟨jb, 6, none⟩ (.slice (some ⟨g, 0, none⟩) (S.recs.length + 1) cap)).setCell ⟨jb, 9, none⟩ (.int .i64 u)) jb vb tb (S.push d) br (.slice (some ⟨g, 0, none⟩) (S.recs.length + 1) cap) hen ∧
      Turn (jfoot jb rv) w ((w2.setCell ⟨jb, 6, none⟩ (.slice (some ⟨g, 0, none⟩) (S.recs.length + 1) cap)).setCell ⟨jb, 9, none⟩ (.int .i64 u)) ∧ ∀ i, i ∈ jfoot jb (.slice (some ⟨g, 0, none⟩) (S.recs.length + 1) cap) → i ∈ jfoot jb rv ∨ w.heap.size ≤ i := by
  have t1 : Turn rv.ownBlock.toList w w2 := (Turn.ofBelow hb (Nat.le_refl _)).grown hg (fun x hx => .inl (by simp [hx]))
  have t2 : Turn (jfoot jb rv) w ((w2.setCell ⟨jb, 6, none⟩ (.slice (some ⟨g, 0, none⟩) (S.recs.length + 1) cap)).setCell ⟨jb, 9, none⟩ (.int .i64 u)) :=
    ((t1.mono (fun i hi => by simp [jfoot] at hi ⊢; exact .inr hi)).setCell (p := ⟨jb, 6, none⟩) (.inl (by simp [jfoot])) _).setCell (p := ⟨jb, 9, none⟩) (.inl (by simp [jfoot])) _
  have hjbn : jb ∉ rv.ownBlock.toList := fun hi => h.jb_ne (by simpa using hi)
  have hblk := h.blk.turn t1 hjbn
  have hgj : g ≠ jb := by
    have := own_blk_ne hown hblk (by decide)
    intro e; apply this; simp [Value.ownBlock, e]
  refine ⟨⟨?_, ?_⟩, t2, ?_⟩
  · rw [JS.push_en hcm, JS.push_next, ← hu]
    exact (hblk.set_ 6 _).set_ 9 _
  · have ts : Turn [jb] w2 ((w2.setCell ⟨jb, 6, none⟩ (.slice (some ⟨g, 0, none⟩) (S.recs.length + 1) cap)).setCell ⟨jb, 9, none⟩ (.int .i64 u)) := ((Turn.refl _ _).setCell (.inl (by simp)) _).setCell (.inl (by simp)) _
    have := row_turn hown ts (fun x hx => by
      have : x = g := by simpa [Value.ownBlock] using hx.symm
      subst this
      simpa using hgj)
    show World.ownsRow _ 0 _ 2 _ (S.recs ++ [(S.next, d)]).length (pcells (S.recs ++ [(S.next, d)]))
    rw [List.length_append, pcells_append]
    exact this
  · intro i hi
    simp [jfoot, Value.ownBlock] at hi ⊢
    rcases hi with rfl | rfl
    · exact .inl (.inl rfl)
    · rcases hat with e | e
      · exact .inl (.inr e)
      · exact .inr e

/-- what an operation on the journal alone leaves -/
def StepJ (w w' : World) (jb vb tb : Nat) (rv : Value) (hen : Nat) (S : JS) (br : Bool) : Prop :=
  ∃ rv', Jr w' jb vb tb S br rv' hen ∧ Turn (jfoot jb rv) w w' ∧ ∀ i, i ∈ jfoot jb rv' → i ∈ jfoot jb rv ∨ w.heap.size ≤ i
theorem StepJ.low {w w' : World} {jb vb tb : Nat} {rv : Value} {hen : Nat} {S : JS} {br : Bool} (h : Jr w jb vb tb S br rv hen) (hb : Below w.heap.size w w') : StepJ w w' jb vb tb rv hen S br :=
  ⟨rv, h.below hb, Turn.ofBelow hb (Nat.le_refl _), fun _ hi => .inl hi⟩
theorem append_nil (d : ByteArray) (w : World) : Calls Tryz.prog 23 #[.pointer none, .string d] w fun e w' => e = .returned (.tuple #[.int .i64 0, .int .i64 1]) ∧ w = w' := by
  go_enter Tryz.func23, Tryz.ntmps23
  go_wp2_with ((go_at_call 46; refine (state_nil _).mono ?_; rintro e w1 ⟨rfl, rfl⟩))
  go_ret2
  exact ⟨rfl, rfl⟩
set_option maxRecDepth 100000 in
set_option maxHeartbeats 2000000 in
theorem jappend_any (d : ByteArray) {w : World} {jb vb tb : Nat} {S : JS} {rv : Value} {hen : Nat} (h : Jr w jb vb tb S false rv hen) {st : VS} {F : List Nat} (hV : VolF w vb st F) {m c : Nat} (hm : st.dur.length = m + 2) (hS : S.wf (256 * m) c) (hc : c ≤ 1048576) :
    Calls Tryz.prog 23 #[.pointer (some ⟨jb, 0, none⟩), .string d] w fun e w' => e = .returned (.tuple #[.int .i64 (S.append (256 * m) d).1, .int .i64 ((S.append (256 * m) d).2.1 : Int)]) ∧ StepJ w w' jb vb tb rv hen (S.append (256 * m) d).2.2 false := by
  have hnx : S.next ≤ 1125899906842624 := by have := hS.pos; omega
  have hbg : S.beg ≤ 1125899906842624 := by have := hS.en_le; have := hS.beg_le; omega
  have hfi : S.first + S.recs.length ≤ 281474976710656 := by have := hS.nums; omega
  have HFR := Lib.hid (free_any h hV hm hbg hnx)
  have hst := state_any h
  simp only [Bool.false_eq_true, if_false] at hst
  have HST := Lib.hid hst
  clear hst
  by_cases h1 : 65536 < d.size
  · have e : S.append (256 * m) d = (0, 10, S) := by unfold JS.append; rw [if_pos h1]
    rw [e]
    have HSJ := Lib.hid (StepJ.low h (Below.refl _ w))
    have d1 : decide (65536 < (d.size : Int)) = true := by simp; omega
    clear h hV e
    go_enter Tryz.func23, Tryz.ntmps23
    go_wp2_with ((go_at_call 46; refine HST.out.mono ?_; rintro e w1 ⟨rfl, rfl⟩))
    go_ret2
    exact ⟨rfl, HSJ.out⟩
  · have d1 : decide (65536 < (d.size : Int)) = false := by simp; omega
    obtain ⟨f, hf⟩ : ∃ f, S.free (256 * m) = f := ⟨_, rfl⟩
    rw [hf] at HFR
    by_cases h2 : f < (d.size : Int)
    · have e : S.append (256 * m) d = (0, 37, S) := by unfold JS.append; rw [if_neg h1, hf, if_pos h2]
      rw [e]
      have HSJ : ∀ n, StepJ w (w.drewN n) jb vb tb rv hen S false := fun n => StepJ.low h (below_drewN (Below.refl _ w))
      have HSJ := Lib.hid HSJ
      have d2 : decide (f < (d.size : Int)) = true := by simpa using h2
      clear h hV e hf
      go_enter Tryz.func23, Tryz.ntmps23
      go_wp2_with (first
        | (go_at_call 46; refine HST.out.mono ?_; rintro e w1 ⟨rfl, rfl⟩)
        | (go_at_call 26; refine HFR.out.mono ?_; rintro e w1 ⟨rfl, n1, rfl⟩))
      go_ret2
      exact ⟨rfl, HSJ.out _⟩
    · have e : S.append (256 * m) d = ((S.first : Int) + S.recs.length, 0, S.push d) := by unfold JS.append; rw [if_neg h1, hf, if_neg h2]; rfl
      rw [e]
      have d2 : decide (f < (d.size : Int)) = false := by simpa using h2
      obtain ⟨ao, cap0, hrv⟩ := row_shape h.row
      subst hrv
      have c6 := h.blk.cell 6
      have c9 := h.blk.cell 9
      have f6 := h.blk.frozen 6
      have f9 := h.blk.frozen 9
      have lt := h.blk.lt
      have hne := h.jb_ne
      have hlen : S.recs.length ≤ 1048576 := by have := hS.nums; omega
      have hcm := hS.comm
      simp at c6 c9
      obtain ⟨i0, hi0, hz0, hz1, hz2⟩ := info_parts rec_info
      clear hV e hf
      go_enter Tryz.func23, Tryz.ntmps23
      go_wp2_with (first
        | (go_at_call 46; refine HST.out.mono ?_; rintro e w1 ⟨rfl, rfl⟩)
        | (go_at_call 26; refine HFR.out.mono ?_; rintro e w1 ⟨rfl, n1, rfl⟩))
      have hJ1 := h.drewN n1
      have hb1 : Below w.heap.size w (w.drewN n1) := below_drewN (Below.refl _ _)
      obtain ⟨W1, hW1⟩ : ∃ W, w.drewN n1 = W := ⟨_, rfl⟩
      rw [hW1] at hJ1 hb1 ⊢
      have hsz1 : w.heap.size ≤ W1.heap.size := hb1.size
      clear hW1 c6 c9 f6 f9
      have c6 := hJ1.blk.cell 6
      have c9 := hJ1.blk.cell 9
      have f6 := hJ1.blk.frozen 6
      have f9 := hJ1.blk.frozen 9
      have lt1 := hJ1.blk.lt
      simp at c6 c9
      obtain ⟨W2, hW2⟩ : ∃ W, (W1.alloc (.cells #[.int .i64 (S.next : Int), .string d] 95)).drew = W := ⟨_, rfl⟩
      have hr1 : (W1.alloc (.cells #[.int .i64 (S.next : Int), .string d] 95)).drew.ownsRow 0 95 2 (.slice ao S.recs.length cap0) S.recs.length (pcells S.recs) := row_turn hJ1.row (((Turn.refl [] W1).alloc _).drew) (fun _ _ => by simp)
      have hnw : (W1.alloc (.cells #[.int .i64 (S.next : Int), .string d] 95)).drew.heap[W1.heap.size]? = some (.cells #[.int .i64 (S.next : Int), .string d] 95 (0, 0)) := heap_alloc_new W1 _
      have b6 : (W1.alloc (.cells #[.int .i64 (S.next : Int), .string d] 95)).drew.heap[jb]? = W1.heap[jb]? := Below.heap_alloc W1 _ jb lt1
      have c6a := (World.cell?_of_block (a := ⟨jb, 6, none⟩) b6).trans c6
      have c9a := (World.cell?_of_block (a := ⟨jb, 9, none⟩) b6).trans c9
      have f6a := (World.frozen?_of_block (a := ⟨jb, 6, none⟩) b6).trans f6
      have f9a := (World.frozen?_of_block (a := ⟨jb, 9, none⟩) b6).trans f9
      have hba : Below w.heap.size w (W1.alloc (.cells #[.int .i64 (S.next : Int), .string d] 95)).drew := below_drewN (n := 1) (hb1.alloc hsz1 _)
      have hsa : (W1.alloc (.cells #[.int .i64 (S.next : Int), .string d] 95)).drew.heap.size = W1.heap.size + 1 := by simp
      rw [hW2] at hr1 hnw c6a c9a f6a f9a hba hsa
      have HA := Lib.hid (And.intro hnw (And.intro c6a (And.intro c9a (And.intro f6a (And.intro f9a (And.intro hba hsa))))))
      clear hnw f6a f9a hba b6
      go_region_law (first
        | (refine step_append_lies _ (by rfl) _ _ _ (by rfl) 0 95 i0 _ 2 24 Tryz.underlying86 hi0 hz0 hz1 hz2 rfl (by omega) (.slice ao S.recs.length cap0) S.recs.length (pcells S.recs) (by rfl) hr1
            ⟨W1.heap.size, 0, none⟩ 1 1 [.int .i64 (S.next : Int), .string d] (by rfl) (by rfl) (World.news_of_block (cs := #[.int .i64 (S.next : Int), .string d]) (t := 95) (fr := (0, 0)) HA.out.1) (by simp [Value.oneCell'])
            (by omega) (by unfold maxLen; omega) (by omega) (Nat.zero_le _) (W1.heap.size + 1) hsa ?_; intro g cap w2 hown hg hat hlt; have c62 := (hg.cell_far ⟨jb, 6, none⟩ (by show jb < _; rw [hsa]; omega) (Ne.symm hne)).trans HA.out.2.1; have f62 := (hg.frozen_far ⟨jb, 6, none⟩ (by show jb < _; rw [hsa]; omega) (Ne.symm hne)).trans HA.out.2.2.2.1; have c92 := (hg.cell_far ⟨jb, 9, none⟩ (by show jb < _; rw [hsa]; omega) (Ne.symm hne)).trans HA.out.2.2.1; have f92 := (hg.frozen_far ⟨jb, 9, none⟩ (by show jb < _; rw [hsa]; omega) (Ne.symm hne)).trans HA.out.2.2.2.2.1))
      all_goals
        obtain ⟨hJ3, hT3, hF3⟩ := h.pushed hcm HA.out.2.2.2.2.2.1 hg hown (hat.imp id (fun e => by omega)) (u := (S.next : Int) + (16 + (d.size : Int))) (by omega)
        have hfl : (S.push d).recs.length = S.recs.length + 1 := by show (S.recs ++ [(S.next, d)]).length = _; rw [List.length_append]; rfl
        have hls := last_any hJ3 (by show S.first ≤ _; omega) (by rw [hfl]; omega)
        have el : (S.push d).last = (S.first : Int) + S.recs.length := by unfold JS.last; rw [hfl]; show (S.first : Int) + _ - 1 = _; omega
        rw [el] at hls
        have HLS := Lib.hid hls
        have HP := Lib.hid (And.intro hJ3 (And.intro hT3 hF3))
        clear hls hJ3 hT3 hF3 hown hr1
        go_wp2_with ((go_at_call 28; refine HLS.out.mono ?_; rintro e w3 ⟨rfl, n3, rfl⟩))
        go_ret2
        exact ⟨rfl, _, HP.out.1.drewN _, HP.out.2.1.drewN _, HP.out.2.2⟩
end Go.Proofs.YtfdnpchbbngpjaaGreat
namespace Go.Proofs.YtfdnpchbbngpjaaGreat
open Go.RowKit Go.Maps

def JS.has (S : JS) (k : Int) : Bool := decide ((S.first : Int) ≤ k) && decide (k ≤ S.last)
def JS.readP (S : JS) (k : Int) : ByteArray × Nat := if S.has k then ((S.recs.getD (k - S.first).toNat (0, ⟨#[]⟩)).2, 0) else (⟨#[]⟩, 8)
theorem jread_nil (k : Int) (w : World) : Calls Tryz.prog 39 #[.pointer none, .int .i64 k] w fun e w' => e = .returned (.tuple #[.string ⟨#[]⟩, .int .i64 1]) ∧ w = w' := by
  go_enter Tryz.func39, Tryz.ntmps39
  go_wp2_with ((go_at_call 46; refine (state_nil _).mono ?_; rintro e w1 ⟨rfl, rfl⟩))
  go_ret2
  exact ⟨rfl, rfl⟩
theorem row_cells {w : World} {ao : Option Addr} {n cap : Nat} {l : List Rc} (h : w.ownsRow 0 95 2 (.slice ao n cap) n (pcells l)) (hl : l.length = n) {j : Nat} (hj : j < n) :
    ∃ g, ao = some ⟨g, 0, none⟩ ∧ n ≤ cap ∧ w.cell? ⟨g, 2 * j, none⟩ = some (.int .i64 ((l.getD j (0, ⟨#[]⟩)).1 : Int)) ∧ w.cell? ⟨g, 2 * j + 1, none⟩ = some (.string (l.getD j (0, ⟨#[]⟩)).2) := by
  rcases h.2 with ⟨h1, h2⟩ | ⟨g, c, cur, h1, _, _, hn, _⟩
  · omega
  · injection h1 with h1 h2 h3
    subst h1 h3
    have hp := pcells_at (List.getElem?_eq_getElem (l := l) (i := j) (by omega))
    have e1 := h.cellAt (2 * j) (by omega)
    have e2 := h.cellAt (2 * j + 1) (by omega)
    rw [hp.1] at e1
    rw [hp.2] at e2
    refine ⟨g, rfl, hn, ?_, ?_⟩
    · rw [e1, List.getD_eq_getElem?_getD, List.getElem?_eq_getElem (by omega)]; rfl
    · rw [e2, List.getD_eq_getElem?_getD, List.getElem?_eq_getElem (by omega)]; rfl
set_option maxRecDepth 100000 in
set_option maxHeartbeats 2000000 in
theorem jread_any (k : Int) {w : World} {jb vb tb : Nat} {S : JS} {rv : Value} {hen : Nat} (h : Jr w jb vb tb S false rv hen) (hf : S.first ≤ 281474976710656) (hr : S.recs.length ≤ 1048576) :
    Calls Tryz.prog 39 #[.pointer (some ⟨jb, 0, none⟩), .int .i64 k] w fun e w' => e = .returned (.tuple #[.string (S.readP k).1, .int .i64 ((S.readP k).2 : Int)]) ∧ ∃ n, w' = w.drewN n := by
  have hst := state_any h
  simp only [Bool.false_eq_true, if_false] at hst
  have HST := Lib.hid hst
  have HJ := Lib.hid h
  have HLA := Lib.hid (last_any h (by omega) (by omega))
  clear hst
  obtain ⟨la, hla⟩ : ∃ x, S.last = x := ⟨_, rfl⟩
  have hlv : la = (S.first : Int) + S.recs.length - 1 := hla.symm
  rw [hla] at HLA
  by_cases h1 : k < (S.first : Int)
  · have e : S.readP k = (⟨#[]⟩, 8) := by unfold JS.readP JS.has; rw [if_neg (by simp; omega)]
    rw [e]
    have d1 : decide (k < (S.first : Int)) = true := by simpa using h1
    clear h e hlv hla
    go_enter Tryz.func39, Tryz.ntmps39
    go_wp2_with (first
      | (go_at_call 46; refine HST.out.mono ?_; rintro e w1 ⟨rfl, rfl⟩)
      | (go_at_call 29; refine (first_any HJ.out).mono ?_; rintro e w1 ⟨rfl, rfl⟩))
    go_ret2
    exact ⟨rfl, 0, rfl⟩
  · have d1 : decide (k < (S.first : Int)) = false := by simpa using h1
    by_cases h2 : la < k
    · have e : S.readP k = (⟨#[]⟩, 8) := by unfold JS.readP JS.has; rw [hla, if_neg (by simp; omega)]
      rw [e]
      have d2 : decide (la < k) = true := by simpa using h2
      clear h e hlv hla
      go_enter Tryz.func39, Tryz.ntmps39
      go_wp2_with (first
        | (go_at_call 46; refine HST.out.mono ?_; rintro e w1 ⟨rfl, rfl⟩)
        | (go_at_call 29; refine (first_any HJ.out).mono ?_; rintro e w1 ⟨rfl, rfl⟩)
        | (go_at_call 28; refine HLA.out.mono ?_; rintro e w1 ⟨rfl, n1, rfl⟩))
      go_ret2
      exact ⟨rfl, _, rfl⟩
    · have d2 : decide (la < k) = false := by simpa using h2
      obtain ⟨j, hj⟩ : ∃ j : Nat, k - (S.first : Int) = (j : Int) := Int.eq_ofNat_of_zero_le (by omega)
      have hjl : j < S.recs.length := by omega
      have e : S.readP k = ((S.recs.getD j (0, ⟨#[]⟩)).2, 0) := by
        unfold JS.readP JS.has
        rw [hla, if_pos (by simp; omega), hj]
        rfl
      rw [e]
      obtain ⟨ao, cap, hrv⟩ := row_shape h.row
      subst hrv
      obtain ⟨g, rfl, hcp, _, g2⟩ := row_cells h.row rfl hjl
      obtain ⟨x, hx⟩ : ∃ x, (S.recs.getD j (0, ⟨#[]⟩)).2 = x := ⟨_, rfl⟩
      rw [hx] at g2 ⊢
      have c6 := h.blk.cell 6
      simp at c6
      rw [show 2 * j + 1 = j * 2 + 1 from by omega] at g2
      clear h e hlv hla hx
      go_enter Tryz.func39, Tryz.ntmps39
      go_wp2_with (first
        | (go_at_call 46; refine HST.out.mono ?_; rintro e w1 ⟨rfl, rfl⟩)
        | (go_at_call 29; refine (first_any HJ.out).mono ?_; rintro e w1 ⟨rfl, rfl⟩)
        | (go_at_call 28; refine HLA.out.mono ?_; rintro e w1 ⟨rfl, n1, rfl⟩))
      go_quiet ((go_at_call 29; refine (first_any (HJ.out.drewN _)).mono ?_; rintro e w' ⟨rfl, rfl⟩; exact ⟨rfl, _, rfl⟩))
      go_wp2_with fail
      go_ret2
      exact ⟨rfl, _, World.drewN_drewN ..⟩
end Go.Proofs.YtfdnpchbbngpjaaGreat
namespace Go.Proofs.YtfdnpchbbngpjaaGreat
open Go.RowKit Go.Maps

theorem jstr_info : (Tryz.prog.info? 9).map (fun i => (i.zero, i.size, i.bytes)) = some (some (.string ⟨#[]⟩), 1, 16) := by kernel_rfl
def datas (l : List Rc) : List Value := l.map fun r => Value.string r.2
theorem datas_step {l : List Rc} {k : Nat} (h : k < l.length) : datas (l.take (k + 1)) = datas (l.take k) ++ [.string (l.getD k (0, ⟨#[]⟩)).2] := by
  unfold datas
  rw [List.take_add_one, List.getElem?_eq_getElem h, List.map_append, List.getD_eq_getElem?_getD, List.getElem?_eq_getElem h]
  rfl
def JS.fromP (S : JS) (k : Int) : Option (List Rc) := if (S.first : Int) ≤ k ∧ k ≤ S.last + 1 then some (S.recs.drop (k - S.first).toNat) else none
theorem from_nil (k : Int) (w : World) : Calls Tryz.prog 40 #[.pointer none, .int .i64 k] w fun e w' => e = .returned (.tuple #[.slice none 0 0, .int .i64 1]) ∧ w = w' := by
  go_enter Tryz.func40, Tryz.ntmps40
  go_wp2_with ((go_at_call 46; refine (state_nil _).mono ?_; rintro e w1 ⟨rfl, rfl⟩))
  go_ret2
  exact ⟨rfl, rfl⟩
theorem from_no (k : Int) {w : World} {jb vb tb : Nat} {S : JS} {rv : Value} {hen : Nat} (h : Jr w jb vb tb S false rv hen) (hf : S.first ≤ 281474976710656) (hr : S.recs.length ≤ 1048576) (hk : S.fromP k = none) :
    Calls Tryz.prog 40 #[.pointer (some ⟨jb, 0, none⟩), .int .i64 k] w fun e w' => e = .returned (.tuple #[.slice none 0 0, .int .i64 2]) ∧ ∃ n, w' = w.drewN n := by
  have hst := state_any h
  simp only [Bool.false_eq_true, if_false] at hst
  have HST := Lib.hid hst
  have HJ := Lib.hid h
  have HLA := Lib.hid (last_any h (by omega) (by omega))
  clear hst
  obtain ⟨la, hla⟩ : ∃ x, S.last = x := ⟨_, rfl⟩
  have hlv : la = (S.first : Int) + S.recs.length - 1 := hla.symm
  rw [hla] at HLA
  have hk' : ¬ ((S.first : Int) ≤ k ∧ k ≤ la + 1) := by
    intro hh
    unfold JS.fromP at hk
    rw [hla, if_pos hh] at hk
    cases hk
  by_cases h1 : k < (S.first : Int)
  · have d1 : decide (k < (S.first : Int)) = true := by simpa using h1
    clear h hlv hla hk'
    go_enter Tryz.func40, Tryz.ntmps40
    go_wp2_with (first
      | (go_at_call 46; refine HST.out.mono ?_; rintro e w1 ⟨rfl, rfl⟩)
      | (go_at_call 29; refine (first_any HJ.out).mono ?_; rintro e w1 ⟨rfl, rfl⟩))
    go_ret2
    exact ⟨rfl, 0, rfl⟩
  · have d1 : decide (k < (S.first : Int)) = false := by simpa using h1
    have d2 : decide (la + 1 < k) = true := by simp; omega
    go_enter Tryz.func40, Tryz.ntmps40
    go_wp2_with (first
      | (go_at_call 46; refine HST.out.mono ?_; rintro e w1 ⟨rfl, rfl⟩)
      | (go_at_call 29; refine (first_any HJ.out).mono ?_; rintro e w1 ⟨rfl, rfl⟩)
      | (go_at_call 28; refine HLA.out.mono ?_; rintro e w1 ⟨rfl, n1, rfl⟩))
    go_ret2
    exact ⟨rfl, _, rfl⟩
def FromPost (l : List Rc) (w : World) (e : Ending) (w' : World) : Prop :=
  ∃ v, e = .returned (.tuple #[v, .int .i64 0]) ∧ w'.ownsRow w.heap.size 9 1 v l.length (datas l) ∧ Below w.heap.size w w'
set_option maxRecDepth 100000 in
set_option maxHeartbeats 4000000 in
theorem from_yes (k : Int) {w : World} {jb vb tb : Nat} {S : JS} {rv : Value} {hen : Nat} (h : Jr w jb vb tb S false rv hen) (hf : S.first ≤ 281474976710656) (hr : S.recs.length ≤ 1048576) {l : List Rc} (hk : S.fromP k = some l) :
    Calls Tryz.prog 40 #[.pointer (some ⟨jb, 0, none⟩), .int .i64 k] w (FromPost l w) := by
  obtain ⟨i0, hi, hz0, hz1, hz2⟩ := info_parts jstr_info
  have hst := state_any h
  simp only [Bool.false_eq_true, if_false] at hst
  have HST := Lib.hid hst
  have HJ := Lib.hid h
  have HLA := Lib.hid (last_any h (by omega) (by omega))
  clear hst
  obtain ⟨la, hla⟩ : ∃ x, S.last = x := ⟨_, rfl⟩
  have hlv : la = (S.first : Int) + S.recs.length - 1 := hla.symm
  rw [hla] at HLA
  have hk' : ((S.first : Int) ≤ k ∧ k ≤ la + 1) ∧ l = S.recs.drop (k - S.first).toNat := by
    unfold JS.fromP at hk
    rw [hla] at hk
    split at hk
    · rename_i hh; injection hk with hk; exact ⟨hh, hk.symm⟩
    · cases hk
  obtain ⟨⟨hk1, hk2⟩, hl⟩ := hk'
  obtain ⟨j, hj⟩ : ∃ j : Nat, k - (S.first : Int) = (j : Int) := Int.eq_ofNat_of_zero_le (by omega)
  have hjl : j ≤ S.recs.length := by omega
  rw [hj, Int.toNat_natCast] at hl
  have hll : l.length = S.recs.length - j := by rw [hl, List.length_drop]
  have d1 : decide (k < (S.first : Int)) = false := by simp; omega
  have d2 : decide (la + 1 < k) = false := by simp; omega
  obtain ⟨ao, cap, hrv⟩ := row_shape h.row
  subst hrv
  have c6 := h.blk.cell 6
  simp at c6
  have hcap : S.recs.length ≤ cap := by
    rcases h.row.2 with ⟨h1, h2⟩ | ⟨g, c, cur, h1, _, _, hn, _⟩
    · injection h1 with h1 h2 h3; omega
    · injection h1 with h1 h2 h3; omega
  clear hk hla
  by_cases hcj : cap = j
  · have hl0 : l = [] := by rw [hl]; exact List.drop_of_length_le (by omega)
    have hjn : j = S.recs.length := by omega
    have HL0 := Lib.hid hl0
    have HJN := Lib.hid hjn
    clear hi hz0 hz1 hz2 hl0 hll hl
    go_enter Tryz.func40, Tryz.ntmps40
    go_wp2_with (first
      | (go_at_call 46; refine HST.out.mono ?_; rintro e w1 ⟨rfl, rfl⟩)
      | (go_at_call 29; refine (first_any HJ.out).mono ?_; rintro e w1 ⟨rfl, rfl⟩)
      | (go_at_call 28; refine HLA.out.mono ?_; rintro e w1 ⟨rfl, n1, rfl⟩))
    go_quiet ((go_at_call 29; refine (first_any (HJ.out.drewN _)).mono ?_; rintro e w' ⟨rfl, rfl⟩; exact ⟨rfl, _, rfl⟩))
    go_wp2_with fail
    go_loopw [7, 36] (fun v i wr => v = .slice none 0 0 ∧ i = .int .i64 0 ∧ Below w.heap.size w wr) (fun _ _ _ => 0)
    case atStart => exact ⟨rfl, rfl, below_drewN (below_drewN (Below.refl _ _))⟩
    case round =>
      obtain ⟨rfl, rfl, hbel⟩ := hrel
      go_wp2_with fail
      go_ret2
      rw [HL0.out]
      exact ⟨_, rfl, World.ownsRow_nil _ _ _ _, hbel⟩
  · go_enter Tryz.func40, Tryz.ntmps40
    go_wp2_with (first
      | (go_at_call 46; refine HST.out.mono ?_; rintro e w1 ⟨rfl, rfl⟩)
      | (go_at_call 29; refine (first_any HJ.out).mono ?_; rintro e w1 ⟨rfl, rfl⟩)
      | (go_at_call 28; refine HLA.out.mono ?_; rintro e w1 ⟨rfl, n1, rfl⟩))
    go_quiet ((go_at_call 29; refine (first_any (HJ.out.drewN _)).mono ?_; rintro e w' ⟨rfl, rfl⟩; exact ⟨rfl, _, rfl⟩))
    go_wp2_with fail
    obtain ⟨ao', hao⟩ : ∃ ao', Option.map (fun x : Addr => x.add (j * 2)) ao = ao' := ⟨_, rfl⟩
    have hcell : ∀ i, i < l.length → ∃ g, ao' = some ⟨g, j * 2, none⟩ ∧ g < w.heap.size ∧ w.cell? ⟨g, j * 2 + i * 2, none⟩ = some (.int .i64 ((l.getD i (0, ⟨#[]⟩)).1 : Int)) ∧ w.cell? ⟨g, j * 2 + i * 2 + 1, none⟩ = some (.string (l.getD i (0, ⟨#[]⟩)).2) := by
      intro i hil
      obtain ⟨g, rfl, _, g1, g2⟩ := row_cells h.row rfl (j := j + i) (by omega)
      have hgl : g < w.heap.size := (h.row.lt g rfl).2
      have eg : l.getD i (0, ⟨#[]⟩) = S.recs.getD (j + i) (0, ⟨#[]⟩) := by
        rw [hl, List.getD_eq_getElem?_getD, List.getElem?_drop, ← List.getD_eq_getElem?_getD]
      rw [eg]
      refine ⟨g, ?_, hgl, by rw [show j * 2 + i * 2 = 2 * (j + i) from by omega]; exact g1, by rw [show j * 2 + i * 2 + 1 = 2 * (j + i) + 1 from by omega]; exact g2⟩
      rw [← hao]
      show some ((⟨g, 0, none⟩ : Addr).add (j * 2)) = _
      unfold Addr.add
      split
      · rename_i h0; rw [h0]
      · simp
    have HC := Lib.hid hcell
    have hlz : l.length ≤ 1048576 := by omega
    rw [hao, ← hll]
    clear hcell hao hl h c6 hll
    go_loopw [7, 36] (fun v i wr => ∃ q : Nat, q ≤ l.length ∧ i = .int .i64 q ∧ wr.ownsRow w.heap.size 9 1 v q (datas (l.take q)) ∧ Below w.heap.size w wr) (fun _ i _ => l.length - (intOf i).toNat)
    case atStart => exact ⟨0, Nat.zero_le _, rfl, World.ownsRow_nil _ _ _ _, below_drewN (below_drewN (Below.refl _ _))⟩
    case round =>
      obtain ⟨q, hq, rfl, hown, hbel⟩ := hrel
      by_cases hlt : q < l.length
      · obtain ⟨g, rfl, hgl, g1, g2⟩ := HC.out q hlt
        have k1 := (hbel.cell (p := ⟨g, j * 2 + q * 2, none⟩) hgl).trans g1
        have k2 := (hbel.cell (p := ⟨g, j * 2 + q * 2 + 1, none⟩) hgl).trans g2
        have HD := Lib.hid (datas_step hlt)
        obtain ⟨x, hx⟩ : ∃ x, l.getD q (0, ⟨#[]⟩) = x := ⟨_, rfl⟩
        rw [hx] at k1 k2 HD
        have hsz := hbel.size
        clear g1 g2 hx
        have hcn : ∀ (o : Obj) (t : TypeId) (j : Nat) (u : Value), [Value.string x.2][j]? = some u → ((wr.alloc o).alloc (.cells #[.string x.2] t)).cell? ((⟨wr.heap.size + 1, 0, none⟩ : Addr).add j) = some u := by
          intro o t j u hu
          have hb : ((wr.alloc o).alloc (.cells #[.string x.2] t)).heap[wr.heap.size + 1]? = some (.cells #[.string x.2] t (0, 0)) := by
            have := heap_alloc_new (wr.alloc o) (.cells #[.string x.2] t)
            rw [World.size_alloc] at this
            exact this
          exact World.news_of_block hb j u hu
        have HCN := Lib.hid hcn
        clear hcn
        go_wp2_with ((at_builtin; refine wpList_append_own _ rfl _ _ 73 rfl w.heap.size 9 i0 (.string ⟨#[]⟩) 1 16 Tryz.underlying73 hi hz0 hz1 hz2 rfl (by decide) _ _ _ rfl ((hown.alloc _).alloc _) ⟨wr.heap.size + 1, 0, none⟩ 1 1 [.string x.2] rfl rfl (HCN.out _ _) (by intro u hu; simp at hu; subst hu; rfl) (by unfold maxLen; omega) (by omega) (by simp; omega) ?_))
        intro v' w1 hown' hgrow _
        have R := rel_append (w := wr.alloc _) (by simp; omega) (hown.alloc _) (hbel.alloc hsz _) hown' hgrow
        clear hown' hgrow hown hbel hi hz0 hz1 hz2
        go_wp2
        go_roundw
        case rel => exact ⟨q + 1, by omega, by go_num, by rw [HD.out]; exact R.1, R.2⟩
        case measure => simp [intOf]; omega
      · obtain rfl : q = l.length := by omega
        clear hi hz0 hz1 hz2
        rw [List.take_length] at hown
        go_wp2_with fail
        go_ret2
        exact ⟨_, rfl, hown, hbel⟩
end Go.Proofs.YtfdnpchbbngpjaaGreat
