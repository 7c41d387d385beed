/- The verifier's survive; its known. -/
import Derived.Test.YtfhcecfddejcdaaVfil
namespace Go.Proofs.Ytfhcecfddejcdaa
open Go.RowKit Go.Maps

set_option maxHeartbeats 1000000 in
theorem lsurv_any (a b : ByteArray) (c : Nat) (hc : c < 256) (w : World) (ha : a.size = 256) (hb : b.size = 256) :
    Calls Try.prog 14 #[.string a, .string b, .int .u8 (c : Int)] w fun e w' => e = .returned (.string (surv a b c)) ∧ ∃ n, w' = w.drewN n := by
  obtain ⟨q, hq, hq3⟩ : ∃ q : Nat, c / 4 % 3 = q ∧ q < 3 := ⟨_, rfl, Nat.mod_lt _ (by omega)⟩
  obtain ⟨m, hm, hm4⟩ : ∃ m : Nat, c % 4 = m ∧ m < 4 := ⟨_, rfl, Nat.mod_lt _ (by omega)⟩
  have hqi : ((c : Int) / 4 % 3) = (q : Int) := by omega
  have hmi : ((c : Int) % 4) = (m : Int) := by omega
  have HA := Lib.hid ha
  have HB := Lib.hid hb
  have HQ := Lib.hid hq
  have HM := Lib.hid hm
  have ga : (256 : Int) ≤ (a.size : Int) := by omega
  have gb : (256 : Int) ≤ (b.size : Int) := by omega
  clear ha hb hq hm
  match m, hm4 with
  | 0, _ =>
    simp at hmi
    go_enter Try.func14, Try.ntmps14
    go_wp2
    go_ret
    refine ⟨?_, 0, rfl⟩
    unfold surv; simp only; rw [if_pos HM.out]; rfl
  | 1, _ =>
    simp at hmi
    go_enter Try.func14, Try.ntmps14
    go_wp2
    go_ret
    refine ⟨?_, 0, rfl⟩
    unfold surv; simp only; rw [if_neg (by rw [HM.out]; omega), if_pos HM.out]; rfl
  | 2, _ =>
    match q, hq3 with
    | 0, _ =>
      simp at hmi
      simp at hqi
      have ha := HA.out
      have hb := HB.out
      clear ga gb
      go_enter Try.func14, Try.ntmps14
      go_wp2
      go_quiet (fail)
      go_wp2
      go_ret
      refine ⟨?_, _, rfl⟩
      rw [surv_new c 0 HM.out HQ.out, ha]; rfl
    | 1, _ =>
      simp at hmi
      simp at hqi
      have ha := HA.out
      have hb := HB.out
      clear ga gb
      go_enter Try.func14, Try.ntmps14
      go_wp2
      go_quiet (fail)
      go_wp2
      go_ret
      refine ⟨?_, _, rfl⟩
      rw [surv_new c 1 HM.out HQ.out, ha]; rfl
    | 2, _ =>
      simp at hmi
      simp at hqi
      have ha := HA.out
      have hb := HB.out
      clear ga gb
      go_enter Try.func14, Try.ntmps14
      go_wp2
      go_quiet (fail)
      go_wp2
      go_ret
      refine ⟨?_, _, rfl⟩
      rw [surv_new c 2 HM.out HQ.out, ha]; rfl
  | 3, _ =>
    match q, hq3 with
    | 0, _ =>
      simp at hmi
      simp at hqi
      have ha := HA.out
      have hb := HB.out
      clear ga gb
      go_enter Try.func14, Try.ntmps14
      go_wp2
      go_quiet (fail)
      go_wp2
      go_ret
      refine ⟨?_, _, rfl⟩
      rw [surv_old c 0 HM.out HQ.out, hb]; rfl
    | 1, _ =>
      simp at hmi
      simp at hqi
      have ha := HA.out
      have hb := HB.out
      clear ga gb
      go_enter Try.func14, Try.ntmps14
      go_wp2
      go_quiet (fail)
      go_wp2
      go_ret
      refine ⟨?_, _, rfl⟩
      rw [surv_old c 1 HM.out HQ.out, hb]; rfl
    | 2, _ =>
      simp at hmi
      simp at hqi
      have ha := HA.out
      have hb := HB.out
      clear ga gb
      go_enter Try.func14, Try.ntmps14
      go_wp2
      go_quiet (fail)
      go_wp2
      go_ret
      refine ⟨?_, _, rfl⟩
      rw [surv_old c 2 HM.out HQ.out, hb]; rfl

theorem below_drewN {B : Nat} {a w : World} (h : Below B a w) (n : Nat) : Below B a (w.drewN n) := ⟨h.os, h.tape, h.output, h.size, h.block⟩
/-- a device in memory of the call's own, the call having begun in w -/
def Own (w w' : World) (vb : Nat) (st : VS) (F : List Nat) : Prop := VolF w' vb st F ∧ Below w.heap.size w w' ∧ ∀ i, i ∈ F → w.heap.size ≤ i
theorem Own.step {w w1 w2 : World} {vb : Nat} {st st2 : VS} {F : List Nat} (h : Own w w1 vb st F) (hs : Step F w1 w2 vb st2) : ∃ F2, Own w w2 vb st2 F2 := by
  obtain ⟨h1, h2, h3⟩ := h
  obtain ⟨F2, k1, k2, k3⟩ := hs
  refine ⟨F2, k1, h2.trans (k2.toBelow h3 h2.size), fun i hi => ?_⟩
  rcases k3 i hi with e | e
  · exact h3 i e
  · exact Nat.le_trans h2.size e
theorem Own.below {w w1 w2 : World} {vb : Nat} {st : VS} {F : List Nat} (h : Own w w1 vb st F) (hb : Below w1.heap.size w1 w2) : Own w w2 vb st F :=
  ⟨h.1.below hb, h.2.1.trans (hb.mono h.2.1.size), h.2.2⟩
theorem Own.vol {w w1 w2 : World} {vb : Nat} {st st2 : VS} {F : List Nat} {mb : Nat} {pv : Value} (h : Own w w1 vb st F) (hF : F = foot vb mb pv) (hv : Vol w2 vb st2 mb pv) (ht : Turn [vb] w1 w2) : Own w w2 vb st2 F := by
  subst hF
  refine ⟨⟨mb, pv, hv, rfl⟩, h.2.1.trans ((ht.mono (G := foot vb mb pv) (fun i hi => by simp at hi; subst hi; exact Vol.foot_vb)).toBelow h.2.2 h.2.1.size), h.2.2⟩
theorem new_own (n : Nat) (w : World) (h1 : 1 ≤ n) (h2 : n ≤ 65536) :
    Calls Try.prog 15 #[.int .i64 (n : Int)] w fun e w' => ∃ vb F, e = .returned (.tuple #[.pointer (some ⟨vb, 0, none⟩), .int .i64 0]) ∧ Own w w' vb (VS.new n) F :=
  (new_yes n w h1 h2).mono fun _ _ ⟨vb, F, h1, h2, h3, h4⟩ => ⟨vb, F, h1, h2, h3, h4⟩
def known1 : VS := (VS.new 2).write 0 (filled 4) |>.2
def known2 : VS := known1.barrier.2
def known3 : VS := (known2.write 0 (filled 25)).2
def known4 : VS := known3.crash.start [6]
theorem known_w1 : ((VS.new 2).write 0 (filled 4)).1 = 0 := by
  unfold VS.write VS.new inR VS.tick
  simp [filled_size]
theorem known1_eq : known1 = ⟨[zb, zb], [(0, filled 4)], none, false⟩ := by
  unfold known1 VS.write VS.new inR VS.tick
  simp [filled_size]
theorem known_b : known1.barrier.1 = 0 := by
  rw [known1_eq]; unfold VS.barrier VS.tick; simp
theorem known2_eq : known2 = ⟨[filled 4, zb], [], none, false⟩ := by
  unfold known2; rw [known1_eq]; unfold VS.barrier VS.tick; simp [flush]
theorem known_w2 : (known2.write 0 (filled 25)).1 = 0 := by
  rw [known2_eq]; unfold VS.write inR VS.tick
  simp [filled_size]
theorem known3_eq : known3 = ⟨[filled 4, zb], [(0, filled 25)], none, false⟩ := by
  unfold known3; rw [known2_eq]; unfold VS.write inR VS.tick
  simp [filled_size]
theorem known4_eq : known4 = ⟨[surv (filled 4) (filled 25) 6, zb], [], none, false⟩ := by
  unfold known4; rw [known3_eq]; unfold VS.crash VS.start settle settle; simp
theorem known_r : known4.read 0 = (surv (filled 4) (filled 25) 6, 0) := by
  rw [known4_eq]; unfold VS.read inR VS.content lastAt VS.at_; simp

set_option maxRecDepth 100000 in
set_option maxHeartbeats 2000000 in
theorem known_any (w : World) : Calls Try.prog 12 #[] w fun e w' => e = .returned (.bool true) ∧ Below w.heap.size w w' := by
  have HW1 := Lib.hid known_w1
  have HB := Lib.hid known_b
  have HW2 := Lib.hid known_w2
  have HR := Lib.hid (known_r.trans (by rw [surv_new 6 1 (by omega) (by omega), filled_size] : (surv (filled 4) (filled 25) 6, 0) = ((filled 25).extract 0 (64 * (1 + 1)) ++ (filled 4).extract (64 * (1 + 1)) 256, 0)))
  go_enter Try.func12, Try.ntmps12
  go_wp2_with fail
  refine (new_own 2 w (by omega) (by omega)).mono ?_
  rintro e w1 ⟨vb, F1, rfl, h1⟩
  go_wp2_with fail
  refine (filled_any 4 (by omega) _).mono ?_
  rintro e w2 ⟨rfl, hb2⟩
  have h2 := h1.below hb2
  go_wp2_with fail
  refine (filled_any 25 (by omega) _).mono ?_
  rintro e w3 ⟨rfl, hb3⟩
  have h3 := h2.below hb3
  clear h1 h2 hb2 hb3
  go_wp2_with fail
  refine (write_any 0 (filled 4) h3.1).mono ?_
  rw [HW1.out]
  rintro e w4 ⟨rfl, hs4⟩
  obtain ⟨F4, h4⟩ := h3.step hs4
  change Own w w4 vb known1 F4 at h4
  clear hs4 h3
  go_wp2_with fail
  refine (barrier_any h4.1).mono ?_
  rw [HB.out]
  rintro e w5 ⟨rfl, hs5⟩
  obtain ⟨F5, h5⟩ := h4.step hs5
  change Own w w5 vb known2 F5 at h5
  clear hs5 h4
  go_wp2_with fail
  refine (write_any 0 (filled 25) h5.1).mono ?_
  rw [HW2.out]
  rintro e w6 ⟨rfl, hs6⟩
  obtain ⟨F6, h6⟩ := h5.step hs6
  change Own w w6 vb known3 F6 at h6
  clear hs6 h5
  go_wp2_with fail
  obtain ⟨mb, pv, hv6, hF6⟩ := h6.1
  refine (crash_any hv6).mono ?_
  rintro e w7 ⟨rfl, hv7, ht7⟩
  have h7 := h6.vol hF6 hv7 ht7
  clear h6 hv6 hF6 hv7 ht7
  go_wp2_with fail
  have h7' := h7.below ((Below.refl _ w7).alloc (Nat.le_refl _) (.cells #[.int .u8 6] 5))
  refine (start_any h7'.1 _ [6] ⟨_, 1, rfl, by simp, fun _ => ⟨w7.heap.size, 0, rfl, by simp, fun j hj => ?_⟩⟩ (fun i hi hm => ?_)).mono ?_
  · have : j = 0 := by simpa using hj
    subst this
    exact (Blk.new w7 5 #[.int .u8 6]).cell 0
  · have h1 := h7.1.lt i hm
    have h2 : w7.heap.size = i := by simpa [Value.ownBlock] using hi
    omega
  rintro e w8 ⟨rfl, hs8⟩
  obtain ⟨F8, h8⟩ := h7'.step hs8
  change Own w w8 vb known4 F8 at h8
  clear hs8 h7 h7'
  go_wp2_with fail
  refine (read_any 0 h8.1).mono ?_
  rw [HR.out]
  rintro e w9 ⟨rfl, hb9⟩
  have hbel := (h8.below hb9).2.1
  have s4 := filled_size 4
  have s25 := filled_size 25
  clear h8 hb9 HR HW1 HW2 HB
  go_wp2_with fail
  go_quiet (fail)
  go_wp2
  go_ret
  exact ⟨rfl, below_drewN hbel _⟩
end Go.Proofs.Ytfhcecfddejcdaa
