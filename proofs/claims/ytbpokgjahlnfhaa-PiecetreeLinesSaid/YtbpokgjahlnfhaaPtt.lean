/- Trees in memory; New, Len, wrong, Replace and their like walked. -/
import Derived.Test.YtbpokgjahlnfhaaPts
namespace Go.Proofs.Ytbpokgjahlnfhaa
open Go.RowKit

/-- block tb is a tree that stores t -/
def Tree (w : World) (tb : Nat) (t : Tr) : Prop := ∃ rv, Blk w tb 69 #[rv] ∧ Nd t w rv
/-- what a tree of the program satisfies -/
def Tr.okay (t : Tr) : Prop := t.full ∧ t.size ≤ 65536
section
variable {w w' : World} {tb : Nat} {t : Tr} {F : List Nat}
theorem Tree.lt (h : Tree w tb t) : tb < w.heap.size := by obtain ⟨_, h, _⟩ := h; exact h.lt
theorem Tree.turn (h : Tree w tb t) (ht : Turn F w w') (hn : tb ∉ F) (hF : ∀ i, i ∈ F → ∃ u cs, Blk w i u cs ∧ u ≠ 82) : Tree w' tb t := by
  obtain ⟨rv, h1, h2⟩ := h
  exact ⟨rv, h1.turn ht hn, h2.turn ht hF⟩
theorem Tree.below (h : Tree w tb t) (hb : Below w.heap.size w w') : Tree w' tb t := by
  obtain ⟨rv, h1, h2⟩ := h
  exact ⟨rv, h1.below hb h1.lt, h2.below hb⟩
theorem Tree.drewN (h : Tree w tb t) (n : Nat) : Tree (w.drewN n) tb t := h.below (below_drewN (Below.refl _ _) n)
theorem Tree.set_ {rv : Value} {t' : Tr} (h : Blk w tb 69 #[rv]) {v : Value} (hn : Nd t' w v) : Tree (w.setCell ⟨tb, 0, none⟩ v) tb t' := by
  have h1 := h.set_ 0 v
  exact ⟨v, by simpa using h1, hn.turn (F := [tb]) ((Turn.refl _ w).setCell (p := ⟨tb, 0, none⟩) (.inl (by simp)) v) (fun i hi => by
    simp at hi
    subst hi
    exact ⟨_, _, h, by decide⟩)⟩
/-- the trees that may turn are no nodes -/
theorem tree_blk {F : List Nat} (hF : ∀ i, i ∈ F → ∃ t, Tree w i t) : ∀ i, i ∈ F → ∃ u cs, Blk w i u cs ∧ u ≠ 82 := fun i hi => by
  obtain ⟨t, rv, h, _⟩ := hF i hi
  exact ⟨_, _, h, by decide⟩
end

theorem tlen_any {w : World} {tb : Nat} {t : Tr} (h : Tree w tb t) : Calls Try.prog 15 #[.pointer (some ⟨tb, 0, none⟩)] w fun e w' => e = .returned (.int .i64 (t.size : Int)) ∧ w = w' := by
  obtain ⟨rv, h1, h2⟩ := h
  have c0 := h1.cell 0
  simp at c0
  clear h1
  obtain ⟨p, rfl⟩ := h2.ptr
  go_enter Try.func15, Try.ntmps15
  go_wp2_with (go_at_call 36; refine (len_any h2).mono ?_; rintro e w' ⟨rfl, rfl⟩)
  go_ret
  exact ⟨rfl, rfl⟩
theorem tdepth_any {w : World} {tb : Nat} {t : Tr} (h : Tree w tb t) : Calls Try.prog 23 #[.pointer (some ⟨tb, 0, none⟩)] w fun e w' => e = .returned (.int .i64 (t.high : Int)) ∧ w = w' := by
  obtain ⟨rv, h1, h2⟩ := h
  have c0 := h1.cell 0
  simp at c0
  clear h1
  obtain ⟨p, rfl⟩ := h2.ptr
  go_enter Try.func23, Try.ntmps23
  go_wp2_with (go_at_call 46; refine (high_any h2).mono ?_; rintro e w' ⟨rfl, rfl⟩)
  go_ret
  exact ⟨rfl, rfl⟩
theorem tpieces_any {w : World} {tb : Nat} {t : Tr} (h : Tree w tb t) : Calls Try.prog 22 #[.pointer (some ⟨tb, 0, none⟩)] w fun e w' => e = .returned (.int .i64 (t.count : Int)) ∧ ∃ n, w' = w.drewN n := by
  obtain ⟨rv, h1, h2⟩ := h
  have c0 := h1.cell 0
  simp at c0
  clear h1
  obtain ⟨p, rfl⟩ := h2.ptr
  go_enter Try.func22, Try.ntmps22
  go_wp2_with (go_at_call 45; refine (count_any h2).mono ?_; rintro e w' ⟨rfl, n, rfl⟩)
  go_ret
  exact ⟨rfl, _, rfl⟩
theorem tlines_any {w : World} {tb : Nat} {t : Tr} (h : Tree w tb t) (ho : t.okay) : Calls Try.prog 31 #[.pointer (some ⟨tb, 0, none⟩)] w fun e w' => e = .returned (.int .i64 (t.feeds + 1 : Int)) ∧ ∃ n, w' = w.drewN n := by
  obtain ⟨rv, h1, h2⟩ := h
  have c0 := h1.cell 0
  simp at c0
  have hf := Tr.feeds_le t
  have hs := ho.2
  clear h1 ho
  obtain ⟨p, rfl⟩ := h2.ptr
  go_enter Try.func31, Try.ntmps31
  go_wp2_with (go_at_call 45; refine (count_any h2).mono ?_; rintro e w' ⟨rfl, n, rfl⟩)
  go_ret
  exact ⟨rfl, _, rfl⟩
theorem tsnap_any {w : World} {tb : Nat} {t : Tr} (h : Tree w tb t) : Calls Try.prog 25 #[.pointer (some ⟨tb, 0, none⟩)] w fun e w' => ∃ nb, e = .returned (.pointer (some ⟨nb, 0, none⟩)) ∧ w.heap.size ≤ nb ∧ Tree w' nb t ∧ Below w.heap.size w w' := by
  obtain ⟨rv, h1, h2⟩ := h
  have c0 := h1.cell 0
  simp at c0
  obtain ⟨p, rfl⟩ := h2.ptr
  go_enter Try.func25, Try.ntmps25
  go_wp2
  go_ret
  exact ⟨_, rfl, Nat.le_refl _, ⟨_, Blk.new _ _ _, h2.alloc _⟩, (Below.refl _ _).alloc (Nat.le_refl _) _⟩

/-- the number that 'wrong' returns -/
def wrongNo (n : Nat) (a b : Int) : Nat := if a < 0 ∨ b < a ∨ (n : Int) < b then 2 else 0
theorem wrong_any (a b : Int) {w : World} {tb : Nat} {t : Tr} (h : Tree w tb t) : Calls Try.prog 37 #[.pointer (some ⟨tb, 0, none⟩), .int .i64 a, .int .i64 b] w fun e w' => e = .returned (.int .i64 (wrongNo t.size a b : Int)) ∧ w = w' := by
  obtain ⟨rv, h1, h2⟩ := h
  have c0 := h1.cell 0
  simp at c0
  clear h1
  obtain ⟨p, rfl⟩ := h2.ptr
  by_cases k1 : a < 0
  · have d1 : decide (a < 0) = true := by simpa using k1
    have HW : Hid (wrongNo t.size a b = 2) := Lib.hid (if_pos (by omega))
    go_enter Try.func37, Try.ntmps37
    go_wp2
    go_ret
    exact ⟨by rw [HW.out]; rfl, rfl⟩
  · have d1 : decide (a < 0) = false := by simpa using k1
    by_cases k2 : b < a
    · have d2 : decide (b < a) = true := by simpa using k2
      have HW : Hid (wrongNo t.size a b = 2) := Lib.hid (if_pos (by omega))
      go_enter Try.func37, Try.ntmps37
      go_wp2
      go_ret
      exact ⟨by rw [HW.out]; rfl, rfl⟩
    · have d2 : decide (b < a) = false := by simpa using k2
      by_cases k3 : (t.size : Int) < b
      · have d3 : decide ((t.size : Int) < b) = true := by simpa using k3
        have HW : Hid (wrongNo t.size a b = 2) := Lib.hid (if_pos (by omega))
        go_enter Try.func37, Try.ntmps37
        go_wp2_with (go_at_call 36; refine (len_any h2).mono ?_; rintro e w' ⟨rfl, rfl⟩)
        go_ret
        exact ⟨by rw [HW.out]; rfl, rfl⟩
      · have d3 : decide ((t.size : Int) < b) = false := by simpa using k3
        have HW : Hid (wrongNo t.size a b = 0) := Lib.hid (if_neg (by omega))
        go_enter Try.func37, Try.ntmps37
        go_wp2_with (go_at_call 36; refine (len_any h2).mono ?_; rintro e w' ⟨rfl, rfl⟩)
        go_ret
        exact ⟨by rw [HW.out]; rfl, rfl⟩

/-- the tree that New makes -/
def Tr.fresh (s : ByteArray) : Tr := if s.size = 0 then .nil else .node .nil s.data.toList .nil
theorem Tr.bytes_fresh (s : ByteArray) : (Tr.fresh s).bytes = s.data.toList := by
  unfold Tr.fresh
  split
  · rename_i h
    have : s.data.toList.length = 0 := by simpa using h
    rw [List.length_eq_zero_iff.1 this]
    rfl
  · simp [Tr.bytes]
theorem Tr.okay_fresh (s : ByteArray) (h : s.size ≤ 65536) : (Tr.fresh s).okay ∧ (Tr.fresh s).avl ∧ (Tr.fresh s).count ≤ 1 := by
  have e : (Tr.fresh s).size = s.size := by unfold Tr.size; rw [Tr.bytes_fresh]; simp
  refine ⟨⟨?_, by omega⟩, ?_, ?_⟩
  · unfold Tr.fresh
    split
    · trivial
    · rename_i h0
      exact ⟨trivial, fun e => h0 (by have := congrArg List.length e; simpa using this), trivial⟩
  · unfold Tr.fresh
    split
    · trivial
    · exact ⟨trivial, trivial, by simp, by simp⟩
  · unfold Tr.fresh
    split <;> simp [Tr.count]
theorem tnew_long (s : ByteArray) (w : World) (h : 65536 < s.size) : Calls Try.prog 14 #[.string s] w fun e w' => e = .returned (.tuple #[.pointer none, .int .i64 10]) ∧ w = w' := by
  have d1 : decide ((65536 : Int) < (s.size : Int)) = true := by simp; omega
  clear h
  go_enter Try.func14, Try.ntmps14
  go_wp2
  go_ret2
  exact ⟨rfl, rfl⟩
def NewT (s : ByteArray) (w : World) (e : Ending) (w' : World) : Prop := ∃ tb, e = .returned (.tuple #[.pointer (some ⟨tb, 0, none⟩), .int .i64 0]) ∧ w.heap.size ≤ tb ∧ Tree w' tb (Tr.fresh s) ∧ Below w.heap.size w w'
set_option maxHeartbeats 1000000 in
theorem tnew_ok (s : ByteArray) (w : World) (h : s.size ≤ 65536) : Calls Try.prog 14 #[.string s] w (NewT s w) := by
  have d1 : decide ((65536 : Int) < (s.size : Int)) = false := by simp; omega
  by_cases h0 : s.size = 0
  · have e : s = ⟨#[]⟩ := by
      apply bytes_ext
      have : s.data.toList.length = 0 := by simpa using h0
      rw [List.length_eq_zero_iff.1 this]
    subst e
    clear h h0
    go_enter Try.func14, Try.ntmps14
    go_wp2
    go_ret2
    exact ⟨_, rfl, Nat.le_refl _, ⟨_, Blk.new _ _ _, rfl⟩, (Below.refl _ _).alloc (Nat.le_refl _) _⟩
  · have e1 := ne_empty h0
    have hf : Tr.fresh s = .node .nil s.data.toList .nil := by unfold Tr.fresh; rw [if_neg h0]
    have g1 : Tr.nil.size + s.size + Tr.nil.size ≤ 300000 := by have : Tr.nil.size = 0 := rfl; omega
    have g2 : Tr.nil.count + Tr.nil.count + 1 ≤ 300000 := by have : Tr.nil.count = 0 := rfl; omega
    have HF := Lib.hid hf
    clear h h0 hf
    go_enter Try.func14, Try.ntmps14
    go_wp2_with (go_at_call 35; refine (mk_any s (l := .nil) (r := .nil) rfl rfl g1 g2).mono ?_; rintro e w1 ⟨v1, rfl, hn1, hb1⟩; obtain ⟨p1, rfl⟩ := hn1.ptr; have hbk := (Blk.new w 69 #[.pointer none]).below hb1 (by simp); have cc := hbk.cell 0; have cf := hbk.frozen 0; simp at cc)
    go_ret2
    refine ⟨_, rfl, Nat.le_refl _, by rw [HF.out]; exact Tree.set_ hbk hn1, ?_⟩
    exact ((((Below.refl _ _).alloc (Nat.le_refl _) _).trans (hb1.mono (by simp))).setCell (p := ⟨w.heap.size, 0, none⟩) (Nat.le_refl _) _)

/-- the number and the tree behind 'Replace' -/
def Tr.replace (t : Tr) (a b : Int) (s : ByteArray) : Nat × Tr :=
  if wrongNo t.size a b = 2 then (2, t) else if (65536 : Int) - (s.size : Int) < (t.size : Int) - (b - a) then (10, t) else (0, t.repl a b s.data.toList)
/-- what an operation on a tree leaves -/
def Done (tb : Nat) (t : Tr) (c : Nat) (w : World) (e : Ending) (w' : World) : Prop := e = .returned (.int .i64 (c : Int)) ∧ Tree w' tb t ∧ Turn [tb] w w'
theorem sclone_any (s : ByteArray) (w : World) (hlim : s.size ≤ 281474976710656) : Calls Try.prog 41 #[.string s] w fun e w' => e = .returned (.string s) ∧ Below w.heap.size w w' := by
  go_enter Try.func41, Try.ntmps41
  go_wp2_with ((go_at_call 51; refine (Try.stringslite_Clone s _ hlim).mono ?_; rintro e w' ⟨rfl, hb⟩))
  go_ret
  exact ⟨rfl, hb⟩
theorem wrongNo_or (n : Nat) (a b : Int) : wrongNo n a b = 2 ∨ wrongNo n a b = 0 := by unfold wrongNo; split <;> simp
set_option maxHeartbeats 1000000 in
theorem rep_wrong (a b : Int) (s : ByteArray) {w : World} {tb : Nat} {t : Tr} (h : Tree w tb t) (hw : wrongNo t.size a b = 2) : Calls Try.prog 18 #[.pointer (some ⟨tb, 0, none⟩), .int .i64 a, .int .i64 b, .string s] w (Done tb t 2 w) := by
  have HW := Lib.hid hw
  clear hw
  go_enter Try.func18, Try.ntmps18
  go_wp2_with (go_at_call 37; refine (wrong_any a b h).mono ?_; rw [HW.out]; rintro e w' ⟨rfl, rfl⟩)
  go_ret
  exact ⟨rfl, h, Turn.refl _ _⟩
set_option maxHeartbeats 1000000 in
theorem rep_long (a b : Int) (s : ByteArray) {w : World} {tb : Nat} {t : Tr} (h : Tree w tb t) (hw : wrongNo t.size a b = 0) (ho : t.size ≤ 65536) (hs : s.size ≤ 281474976710656) (hl : (65536 : Int) - (s.size : Int) < (t.size : Int) - (b - a)) :
    Calls Try.prog 18 #[.pointer (some ⟨tb, 0, none⟩), .int .i64 a, .int .i64 b, .string s] w (Done tb t 10 w) := by
  have hw' : ¬ (a < 0 ∨ b < a ∨ (t.size : Int) < b) := fun hh => by unfold wrongNo at hw; rw [if_pos hh] at hw; cases hw
  have HW := Lib.hid hw
  have hT := h
  obtain ⟨rv, h1, h2⟩ := h
  have c0 := h1.cell 0
  simp at c0
  clear h1 hw
  obtain ⟨p, rfl⟩ := h2.ptr
  have d1 : decide ((65536 : Int) - (s.size : Int) < (t.size : Int) - (b - a)) = true := by simpa using hl
  have x1 : 0 ≤ a := by omega
  have x2 : a ≤ b := by omega
  have x3 : b ≤ (t.size : Int) := by omega
  clear hl hw'
  go_enter Try.func18, Try.ntmps18
  go_wp2_with (first
    | (go_at_call 37; refine (wrong_any a b hT).mono ?_; rw [HW.out]; rintro e w' ⟨rfl, rfl⟩)
    | (go_at_call 36; refine (len_any h2).mono ?_; rintro e w' ⟨rfl, rfl⟩))
  go_ret
  exact ⟨rfl, hT, Turn.refl _ _⟩
set_option maxHeartbeats 2000000 in
theorem rep_ok (a b : Int) (s : ByteArray) {w : World} {tb : Nat} {t : Tr} (h : Tree w tb t) (hw : wrongNo t.size a b = 0) (ho : t.okay) (hs : s.size ≤ 281474976710656) (hl : ¬ (65536 : Int) - (s.size : Int) < (t.size : Int) - (b - a)) :
    Calls Try.prog 18 #[.pointer (some ⟨tb, 0, none⟩), .int .i64 a, .int .i64 b, .string s] w (Done tb (t.repl a b s.data.toList) 0 w) := by
  have hw' : ¬ (a < 0 ∨ b < a ∨ (t.size : Int) < b) := fun hh => by unfold wrongNo at hw; rw [if_pos hh] at hw; cases hw
  have HW := Lib.hid hw
  have hT := h
  obtain ⟨rv, h1, h2⟩ := h
  have c0 := h1.cell 0
  have f0 := h1.frozen 0
  have lt := h1.lt
  simp at c0
  clear hw
  obtain ⟨p, rfl⟩ := h2.ptr
  have d1 : decide ((65536 : Int) - (s.size : Int) < (t.size : Int) - (b - a)) = false := by simpa using hl
  have x1 : 0 ≤ a := by omega
  have x2 : a ≤ b := by omega
  have x3 : b ≤ (t.size : Int) := by omega
  have ho2 := ho.2
  have hct := Tr.count_le ho.1
  have q1 := Tr.size_split t a
  have q2 := Tr.count_split t a
  have q3 := Tr.size_split (t.split a).2 (b - a)
  have q4 := Tr.count_split (t.split a).2 (b - a)
  have g1 : t.size ≤ 200000 := by omega
  have g2 : t.count ≤ 200000 := by omega
  have g3 : (t.split a).2.size ≤ 200000 := by omega
  have g4 : (t.split a).2.count ≤ 200000 := by omega
  have g5 : (t.split a).1.size + (Tr.split (t.split a).2 (b - a)).2.size ≤ 300000 := by omega
  have g6 : (t.split a).1.count + (Tr.split (t.split a).2 (b - a)).2.count ≤ 300000 := by omega
  have g7 : (t.split a).1.size + s.size + (Tr.split (t.split a).2 (b - a)).2.size ≤ 300000 := by omega
  have g8 : (t.split a).1.count + (Tr.split (t.split a).2 (b - a)).2.count + 1 ≤ 300000 := by omega
  have y1 : -1000000 ≤ a ∧ a ≤ 1000000 := by omega
  have y2 : -1000000 ≤ b - a ∧ b - a ≤ 1000000 := by omega
  have Y1 := Lib.hid y1
  have Y2 := Lib.hid y2
  have fin : ∀ (w' : World) (v : Value) (t' : Tr), Nd t' w' v → Below w.heap.size w w' → Tree (w'.setCell ⟨tb, 0, none⟩ v) tb t' ∧ Turn [tb] w (w'.setCell ⟨tb, 0, none⟩ v) := fun _ _ _ hn hb =>
    ⟨Tree.set_ (h1.below hb lt) hn, (Turn.ofBelow hb (Nat.le_refl _)).setCell (p := ⟨tb, 0, none⟩) (.inl (by simp)) _⟩
  have FIN := Lib.hid fin
  clear hl hw' q1 q2 q3 q4 hct y1 y2 ho h1 fin
  by_cases h0 : s.size = 0
  · have e : s = ⟨#[]⟩ := by
      apply bytes_ext
      have : s.data.toList.length = 0 := by simpa using h0
      rw [List.length_eq_zero_iff.1 this]
    subst e
    clear h0
    have HR : Hid (t.repl a b (⟨#[]⟩ : ByteArray).data.toList = Tr.concat (t.split a).1 (Tr.split (t.split a).2 (b - a)).2) := Lib.hid (if_pos rfl)
    go_enter Try.func18, Try.ntmps18
    go_wp2_with (first
      | (go_at_call 37; refine (wrong_any a b hT).mono ?_; rw [HW.out]; rintro e w' ⟨rfl, rfl⟩)
      | (go_at_call 36; refine (len_any h2).mono ?_; rintro e w' ⟨rfl, rfl⟩)
      | (go_at_call_of 38 (Value.pointer p); refine (split_any a h2 g1 g2 Y1.out).mono ?_; rintro e w1 ⟨v1, v2, rfl, hn1, hn2, hb1⟩; obtain ⟨p1, rfl⟩ := hn1.ptr; obtain ⟨p2, rfl⟩ := hn2.ptr)
      | (go_at_call_of 38 (Value.pointer p2); refine (split_any (b - a) hn2 g3 g4 Y2.out).mono ?_; rintro e w2 ⟨v3, v4, rfl, hn3, hn4, hb2⟩; obtain ⟨p3, rfl⟩ := hn3.ptr; obtain ⟨p4, rfl⟩ := hn4.ptr)
      | (go_at_call 39; refine (concat_any (hn1.below hb2) hn4 g5 g6).mono ?_; rintro e w3 ⟨v5, rfl, hn5, hb3⟩; obtain ⟨p5, rfl⟩ := hn5.ptr; have hb := hb1.trans ((hb2.trans (hb3.mono hb2.size)).mono hb1.size); have c3 := (hb.cell (p := ⟨tb, 0, none⟩) lt).trans c0; have f3 := (hb.frozen (p := ⟨tb, 0, none⟩) lt).trans f0))
    go_ret
    have k := FIN.out _ _ _ hn5 hb
    rw [HR.out]
    exact ⟨rfl, k.1, k.2⟩
  · have e1 := ne_empty h0
    have hr : t.repl a b s.data.toList = Tr.join (t.split a).1 s.data.toList (Tr.split (t.split a).2 (b - a)).2 := if_neg (fun e => h0 (by have := congrArg List.length e; simpa using this))
    have HR := Lib.hid hr
    clear h0 hr
    go_enter Try.func18, Try.ntmps18
    go_wp2_with (first
      | (go_at_call 37; refine (wrong_any a b hT).mono ?_; rw [HW.out]; rintro e w' ⟨rfl, rfl⟩)
      | (go_at_call 36; refine (len_any h2).mono ?_; rintro e w' ⟨rfl, rfl⟩)
      | (go_at_call_of 38 (Value.pointer p); refine (split_any a h2 g1 g2 Y1.out).mono ?_; rintro e w1 ⟨v1, v2, rfl, hn1, hn2, hb1⟩; obtain ⟨p1, rfl⟩ := hn1.ptr; obtain ⟨p2, rfl⟩ := hn2.ptr)
      | (go_at_call_of 38 (Value.pointer p2); refine (split_any (b - a) hn2 g3 g4 Y2.out).mono ?_; rintro e w2 ⟨v3, v4, rfl, hn3, hn4, hb2⟩; obtain ⟨p3, rfl⟩ := hn3.ptr; obtain ⟨p4, rfl⟩ := hn4.ptr)
      | (go_at_call 41; refine (sclone_any s _ hs).mono ?_; rintro e w4 ⟨rfl, hb4⟩)
      | (go_at_call 40; refine (join_any s ((hn1.below hb2).below hb4) (hn4.below hb4) g7 g8).mono ?_; rintro e w3 ⟨v5, rfl, hn5, hb3⟩; obtain ⟨p5, rfl⟩ := hn5.ptr; have hb := hb1.trans ((hb2.trans ((hb4.trans (hb3.mono hb4.size)).mono hb2.size)).mono hb1.size); have c3 := (hb.cell (p := ⟨tb, 0, none⟩) lt).trans c0; have f3 := (hb.frozen (p := ⟨tb, 0, none⟩) lt).trans f0))
    go_ret
    have k := FIN.out _ _ _ hn5 hb
    rw [HR.out]
    exact ⟨rfl, k.1, k.2⟩

theorem rep_any (a b : Int) (s : ByteArray) {w : World} {tb : Nat} {t : Tr} (h : Tree w tb t) (ho : t.okay) (hs : s.size ≤ 281474976710656) :
    Calls Try.prog 18 #[.pointer (some ⟨tb, 0, none⟩), .int .i64 a, .int .i64 b, .string s] w (Done tb (t.replace a b s).2 (t.replace a b s).1 w) := by
  unfold Tr.replace
  rcases wrongNo_or t.size a b with h1 | h1
  · rw [if_pos h1]
    exact rep_wrong a b s h h1
  · rw [if_neg (by omega)]
    split
    · rename_i h2
      exact rep_long a b s h h1 ho.2 hs h2
    · rename_i h2
      exact rep_ok a b s h h1 ho hs h2
theorem ins_any (a : Int) (s : ByteArray) {w : World} {tb : Nat} {t : Tr} (h : Tree w tb t) (ho : t.okay) (hs : s.size ≤ 281474976710656) :
    Calls Try.prog 17 #[.pointer (some ⟨tb, 0, none⟩), .int .i64 a, .string s] w (Done tb (t.replace a a s).2 (t.replace a a s).1 w) := by
  go_enter Try.func17, Try.ntmps17
  go_wp2_with (go_at_call 18; refine (rep_any a a s h ho hs).mono ?_; rintro e w' ⟨rfl, h1, h2⟩)
  go_ret
  exact ⟨rfl, h1, h2⟩
theorem del_any (a b : Int) {w : World} {tb : Nat} {t : Tr} (h : Tree w tb t) (ho : t.okay) :
    Calls Try.prog 34 #[.pointer (some ⟨tb, 0, none⟩), .int .i64 a, .int .i64 b] w (Done tb (t.replace a b ⟨#[]⟩).2 (t.replace a b ⟨#[]⟩).1 w) := by
  go_enter Try.func34, Try.ntmps34
  go_wp2_with (go_at_call 18; refine (rep_any a b ⟨#[]⟩ h ho (by decide)).mono ?_; rintro e w' ⟨rfl, h1, h2⟩)
  go_ret
  exact ⟨rfl, h1, h2⟩
end Go.Proofs.Ytbpokgjahlnfhaa
