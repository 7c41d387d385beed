/- samePattern, folded, small, made walked. -/
import Derived.Test.YtdcdlmigagjbiaaDoorKi
namespace Go.Proofs.YtdcdlmigagjbiaaDoor
open Go.RowKit Go.Maps
def BoolPost (b : Bool) (w : World) (e : Ending) (w' : World) : Prop := e = .returned (.bool b) ∧ Below w.heap.size w w'
theorem boolPost {a b : Bool} {w w' : World} (h : a = b) (hb : Below w.heap.size w w') : BoolPost a w (.returned (.bool b)) w' := ⟨by rw [h], hb⟩
def sameP (P Q : Pat) : Bool := decide (P = Q)
theorem sameP_no {P Q : Pat} (h : P.letters ≠ Q.letters ∨ P.beg ≠ Q.beg ∨ P.fin ≠ Q.fin) : sameP P Q = false := by
  unfold sameP
  rw [decide_eq_false]
  rintro rfl
  rcases h with h | h | h <;> exact h rfl
theorem sameP_yes {P Q : Pat} (h1 : P.letters = Q.letters) (h2 : P.beg = Q.beg) (h3 : P.fin = Q.fin) : sameP P Q = (P.levels == Q.levels) := by
  unfold sameP
  cases P; cases Q
  simp only at h1 h2 h3
  subst h1 h2 h3
  rename_i a b c d e
  by_cases h : b = e
  · subst h; simp
  · rw [decide_eq_false (by simpa using h)]; symm; rw [beq_eq_false_iff_ne]; exact h
set_option maxRecDepth 100000 in
set_option maxHeartbeats 1600000 in
theorem samePat_any (P Q : Pat) (pv qv : Value) (w : World) (hp : Ints w pv P.levels) (hq : Ints w qv Q.levels) (hpl : P.levels.length ≤ 1000000000) (hql : Q.levels.length ≤ 1000000000) :
    Calls Tryd.prog 21 #[patV P pv, patV Q qv] w (BoolPost (sameP P Q) w) := by
  unfold patV
  have HP := Lib.hid hp
  have HQ := Lib.hid hq
  have HB1 := Lib.hid ((Blk.new w 33 #[.string ⟨P.letters.toArray⟩, pv, .bool P.beg, .bool P.fin]).alloc (.cells #[.string ⟨Q.letters.toArray⟩, qv, .bool Q.beg, .bool Q.fin] 33))
  have HB2 := Lib.hid (Blk.new (w.alloc (.cells #[.string ⟨P.letters.toArray⟩, pv, .bool P.beg, .bool P.fin] 33)) 33 #[.string ⟨Q.letters.toArray⟩, qv, .bool Q.beg, .bool Q.fin])
  have HBW := Lib.hid (((Below.refl w.heap.size w).alloc (Nat.le_refl _) (.cells #[.string ⟨P.letters.toArray⟩, pv, .bool P.beg, .bool P.fin] 33)).alloc (by simp) (.cells #[.string ⟨Q.letters.toArray⟩, qv, .bool Q.beg, .bool Q.fin] 33))
  obtain ⟨W, hW⟩ : ∃ W, (w.alloc (.cells #[.string ⟨P.letters.toArray⟩, pv, .bool P.beg, .bool P.fin] 33)).alloc (.cells #[.string ⟨Q.letters.toArray⟩, qv, .bool Q.beg, .bool Q.fin] 33) = W := ⟨_, rfl⟩
  rw [hW] at HB1 HB2 HBW
  rw [show (w.alloc (.cells #[.string ⟨P.letters.toArray⟩, pv, .bool P.beg, .bool P.fin] 33)).heap.size = w.heap.size + 1 from by simp] at HB2
  obtain ⟨p0, p1, p2, p3⟩ := HB1.out.four
  obtain ⟨q0, q1, q2, q3⟩ := HB2.out.four
  have hsz := HBW.out.size
  clear hp hq
  by_cases e1 : P.letters = Q.letters
  · have f1 : ((⟨P.letters.toArray⟩ : ByteArray).toList == (⟨Q.letters.toArray⟩ : ByteArray).toList) = true := seq_t (by rw [e1])
    have f1' : (P.letters == Q.letters) = true := by rw [beq_iff_eq]; exact e1
    by_cases e2 : P.beg = Q.beg
    · have f2 : (P.beg == Q.beg) = true := by rw [beq_iff_eq]; exact e2
      by_cases e3 : P.fin = Q.fin
      · have f3 : (P.fin == Q.fin) = true := by rw [beq_iff_eq]; exact e3
        have HS := Lib.hid (sameP_yes e1 e2 e3)
        obtain ⟨pl, hpl'⟩ : ∃ pl, P.levels = pl := ⟨_, rfl⟩
        obtain ⟨ql, hql'⟩ : ∃ ql, Q.levels = ql := ⟨_, rfl⟩
        have HSM := Lib.hid (same_any pv qv P.levels Q.levels W hpl hql (HP.out.below HBW.out) (HQ.out.below HBW.out))
        clear e1 e2 e3 hpl' hql'
        go_enter Tryd.func21, Tryd.ntmps21
        go_wp2_with (go_at_call 28; refine (HSM.out).mono ?_; unfold SamePost; rintro e w1 ⟨rfl, hb1⟩)
        refine bodyPost_ret (v := .bool (P.levels == Q.levels)) (by simp [results, Tryd.f21, go_sem]) rfl (boolPost HS.out (HBW.out.trans (hb1.mono hsz)))
      · have f3 : (P.fin == Q.fin) = false := by rw [beq_eq_false_iff_ne]; exact e3
        have HS := Lib.hid (sameP_no (.inr (.inr e3)))
        clear e1 e2 e3
        go_enter Tryd.func21, Tryd.ntmps21
        go_wp2_with fail
        refine bodyPost_ret (v := .bool false) (by simp [results, Tryd.f21, go_sem]) rfl (boolPost HS.out HBW.out)
    · have f2 : (P.beg == Q.beg) = false := by rw [beq_eq_false_iff_ne]; exact e2
      have HS := Lib.hid (sameP_no (.inr (.inl e2)))
      clear e1 e2
      go_enter Tryd.func21, Tryd.ntmps21
      go_wp2_with fail
      refine bodyPost_ret (v := .bool false) (by simp [results, Tryd.f21, go_sem]) rfl (boolPost HS.out HBW.out)
  · have f1 : ((⟨P.letters.toArray⟩ : ByteArray).toList == (⟨Q.letters.toArray⟩ : ByteArray).toList) = false := seq_f (fun e => e1 (by have := congrArg (fun b : ByteArray => b.data.toList) e; exact this))
    have f1' : (P.letters == Q.letters) = false := by rw [beq_eq_false_iff_ne]; exact e1
    have HS := Lib.hid (sameP_no (.inl e1))
    clear e1
    go_enter Tryd.func21, Tryd.ntmps21
    go_wp2_with fail
    refine bodyPost_ret (v := .bool false) (by simp [results, Tryd.f21, go_sem]) rfl (boolPost HS.out HBW.out)

theorem folded_yes {t : List UInt8} {L : List Int} (h : wordP (foldP t) = some L) (ht : t.length ≤ 100000000) (w : World) :
    Calls Tryd.prog 30 #[.string ⟨t.toArray⟩] w (WordYes L w) := by
  obtain ⟨h1, h2, h3, h4⟩ := wordP_some h
  have hfl := foldP_len t
  have hy := fun w => lets2_yes h1 (by omega) w
  rw [h2] at hy
  have HY := Lib.hid hy
  have d1 : decide (0 < L.length) = true := by simp [h3]
  have d2 : decide (L.length ≤ 64) = true := by simp [h4]
  clear h h1 h2 hy
  go_enter Tryd.func30, Tryd.ntmps30
  go_wp2_with (first
    | (go_at_call 29; refine (fold_at t (by omega) _).mono ?_; rintro e w1 ⟨rfl, hb1⟩; have hs1 := hb1.size)
    | (go_at_call 44; refine (HY.out _).mono ?_; rintro e w2 ⟨ao, cap, rfl, hb2, hr2⟩))
  refine bodyPost_ret (v := .tuple #[.slice ao L.length cap, .bool true]) (by simp [results, Tryd.f30, go_sem]; omega) rfl ⟨ao, cap, rfl, hb1.trans (hb2.mono hs1), Lib.hid (IntRow.weak hr2.out hs1)⟩
theorem folded_no {t : List UInt8} (h : wordP (foldP t) = none) (ht : t.length ≤ 100000000) (w : World) :
    Calls Tryd.prog 30 #[.string ⟨t.toArray⟩] w (WordNo w) := by
  have hfl := foldP_len t
  cases hle : letsP (foldP t) with
  | false =>
    have HY := Lib.hid (fun w => lets2_no hle (by omega) w)
    clear h hle
    go_enter Tryd.func30, Tryd.ntmps30
    go_wp2_with (first
      | (go_at_call 29; refine (fold_at t (by omega) _).mono ?_; rintro e w1 ⟨rfl, hb1⟩; have hs1 := hb1.size)
      | (go_at_call 44; refine (HY.out _).mono ?_; rintro e w2 ⟨rfl, hb2⟩))
    refine bodyPost_ret (v := .tuple #[.slice none 0 0, .bool false]) (by simp [results, Tryd.f30, go_sem]) rfl ⟨_, rfl, hb1.trans (hb2.mono hs1)⟩
  | true =>
    have hn : ¬ (0 < (ptsI (foldP t)).length ∧ (ptsI (foldP t)).length ≤ 64) := by
      intro hc
      unfold wordP at h
      rw [if_pos ⟨hle, hc⟩] at h
      cases h
    obtain ⟨L, hL⟩ : ∃ L, ptsI (foldP t) = L := ⟨_, rfl⟩
    have hy := fun w => lets2_yes hle (by omega) w
    rw [hL] at hy hn
    have HY := Lib.hid hy
    clear h hle hL hy
    by_cases h0 : L.length = 0
    · have d0 : decide (0 < L.length) = false := by simp [h0]
      clear hn
      go_enter Tryd.func30, Tryd.ntmps30
      go_wp2_with (first
        | (go_at_call 29; refine (fold_at t (by omega) _).mono ?_; rintro e w1 ⟨rfl, hb1⟩; have hs1 := hb1.size)
        | (go_at_call 44; refine (HY.out _).mono ?_; rintro e w2 ⟨ao, cap, rfl, hb2, hr2⟩))
      refine bodyPost_ret (v := .tuple #[.slice ao 0 cap, .bool false]) (by simp [results, Tryd.f30, go_sem]) rfl ⟨_, rfl, hb1.trans (hb2.mono hs1)⟩
    · have d0 : decide (0 < L.length) = true := by simp; omega
      have d1 : decide (L.length ≤ 64) = false := by simp; omega
      have h64 : 64 < L.length := by omega
      clear hn
      go_enter Tryd.func30, Tryd.ntmps30
      go_wp2_with (first
        | (go_at_call 29; refine (fold_at t (by omega) _).mono ?_; rintro e w1 ⟨rfl, hb1⟩; have hs1 := hb1.size)
        | (go_at_call 44; refine (HY.out _).mono ?_; rintro e w2 ⟨ao, cap, rfl, hb2, hr2⟩))
      refine bodyPost_ret (v := .tuple #[.slice ao L.length cap, .bool false]) (by simp [results, Tryd.f30, go_sem]; omega) rfl ⟨_, rfl, hb1.trans (hb2.mono hs1)⟩
end Go.Proofs.YtdcdlmigagjbiaaDoor
