/- A journal with its device and its table in memory; fail; the frames that a commit puts, one by one. -/
import Derived.Test.YtfdnpchbbngpjaaGreatJfl
import Derived.Test.YtfdnpchbbngpjaaGreatJoq
namespace Go.Proofs.YtfdnpchbbngpjaaGreat
open Go.RowKit Go.Maps

theorem puts_append (A : List UInt8) (k : Nat) (l m : List Rc) : puts A k (l ++ m) = puts (puts A k l) (k + l.length) m := by
  induction l generalizing A k with
  | nil => rfl
  | cons r t ih =>
    show puts (wr A r.1 (frameL k r.2.data.toList)) (k + 1) (t ++ m) = _
    rw [ih]
    show _ = puts (puts (wr A r.1 (frameL k r.2.data.toList)) (k + 1) t) (k + (t.length + 1)) m
    rw [show k + 1 + t.length = k + (t.length + 1) by omega]
theorem puts_snoc (A : List UInt8) (k : Nat) (l : List Rc) (r : Rc) : puts A k (l ++ [r]) = wr (puts A k l) r.1 (frameL (k + l.length) r.2.data.toList) := by
  rw [puts_append]
  rfl
/-- the journal at jb, its device at vb, its table at tb, apart from one another -/
structure JV (w : World) (jb vb tb : Nat) (S : JS) (br : Bool) (rv : Value) (hen : Nat) (st : VS) (F : List Nat) : Prop where
  j : Jr w jb vb tb S br rv hen
  v : VolF w vb st F
  t : Tb w tb 1 0 crc8
  jF : ∀ i, i ∈ jfoot jb rv → i ∉ F
  jt : tb ∉ jfoot jb rv
  tF : tb ∉ F
def jvfoot (jb tb : Nat) (rv : Value) (F : List Nat) : List Nat := tb :: (jfoot jb rv ++ F)
/-- what an operation leaves -/
def StepV (w w' : World) (jb vb tb : Nat) (rv : Value) (F : List Nat) (S : JS) (br : Bool) (st : VS) : Prop :=
  ∃ rv' hen' F', JV w' jb vb tb S br rv' hen' st F' ∧ Turn (jvfoot jb tb rv F) w w' ∧ ∀ i, i ∈ jvfoot jb tb rv' F' → i ∈ jvfoot jb tb rv F ∨ w.heap.size ≤ i
section
variable {w w' : World} {jb vb tb : Nat} {S : JS} {br : Bool} {rv : Value} {hen : Nat} {st : VS} {F : List Nat}
theorem JV.lt (h : JV w jb vb tb S br rv hen st F) : ∀ i, i ∈ jvfoot jb tb rv F → i < w.heap.size := by
  intro i hi
  rcases List.mem_cons.1 hi with rfl | hi
  · exact Blk.lt h.t
  · rcases List.mem_append.1 hi with hi | hi
    · exact h.j.lt i hi
    · exact h.v.lt i hi
theorem JV.turn (h : JV w jb vb tb S br rv hen st F) {G : List Nat} (ht : Turn G w w') (hn : ∀ i, i ∈ jvfoot jb tb rv F → i ∉ G) : JV w' jb vb tb S br rv hen st F :=
  ⟨h.j.turn ht (fun i hi => hn i (by simp [jvfoot, hi])), h.v.turn ht (fun i hi => hn i (by simp [jvfoot, hi])), Blk.turn h.t ht (hn _ (by simp [jvfoot])), h.jF, h.jt, h.tF⟩
theorem JV.below (h : JV w jb vb tb S br rv hen st F) (hb : Below w.heap.size w w') : JV w' jb vb tb S br rv hen st F := h.turn (G := []) (Turn.ofBelow hb (Nat.le_refl _)) (fun _ _ => by simp)
theorem JV.pr (h : JV w jb vb tb S br rv hen st F) : Pr w vb st tb F := ⟨h.v, .inr h.t, h.tF⟩
/-- the device alone goes on -/
theorem JV.stepD (h : JV w jb vb tb S br rv hen st F) {st' : VS} (hs : Step F w w' vb st') : ∃ F', JV w' jb vb tb S br rv hen st' F' ∧ Turn F w w' ∧ ∀ i, i ∈ F' → i ∈ F ∨ w.heap.size ≤ i := by
  obtain ⟨F', h1, h2, h3⟩ := hs
  refine ⟨F', ⟨h.j.turn h2 h.jF, h1, Blk.turn h.t h2 h.tF, fun i hi hi2 => ?_, h.jt, fun hi => ?_⟩, h2, h3⟩
  · rcases h3 i hi2 with e | e
    · exact h.jF i hi e
    · have := h.j.lt i hi; omega
  · rcases h3 _ hi with e | e
    · exact h.tF e
    · have := Blk.lt h.t; omega
end
/-- the error of the device is noted -/
theorem fail_any (e : Nat) {w : World} {jb vb tb : Nat} {S : JS} {br : Bool} {rv : Value} {hen : Nat} (h : Jr w jb vb tb S br rv hen) :
    Calls Tryz.prog 51 #[.pointer (some ⟨jb, 0, none⟩), .int .i64 (e : Int)] w fun x w' => x = .returned (.int .i64 (e : Int)) ∧ Jr w' jb vb tb S (br || e == 36) rv hen ∧ Turn [jb] w w' := by
  have c10 := h.blk.cell 10
  have f10 := h.blk.frozen 10
  simp at c10
  have hset : ∀ b : Bool, Jr (w.setCell ⟨jb, 10, none⟩ (.bool b)) jb vb tb S b rv hen := fun b => by
    have t : Turn [jb] w (w.setCell ⟨jb, 10, none⟩ (.bool b)) := (Turn.refl _ w).setCell (.inl (by simp)) _
    exact ⟨h.blk.set_ 10 (.bool b), row_turn h.row t (fun g hg => by have := h.jb_ne; rintro hi; simp at hi; subst hi; exact this hg)⟩
  have ht : ∀ b : Bool, Turn [jb] w (w.setCell ⟨jb, 10, none⟩ (.bool b)) := fun b => (Turn.refl _ w).setCell (.inl (by simp)) _
  have HS := Lib.hid (And.intro hset ht)
  clear hset ht h
  cases br with
  | true =>
    go_enter Tryz.func51, Tryz.ntmps51
    go_wp2
    go_ret
    exact ⟨rfl, HS.out.1 _, HS.out.2 _⟩
  | false =>
    have e1 : ((e : Int) == 36) = (e == 36) := by rw [Bool.eq_iff_iff, beq_iff_eq, beq_iff_eq]; omega
    go_enter Tryz.func51, Tryz.ntmps51
    go_wp2
    go_ret
    exact ⟨rfl, HS.out.1 _, HS.out.2 _⟩
end Go.Proofs.YtfdnpchbbngpjaaGreat
