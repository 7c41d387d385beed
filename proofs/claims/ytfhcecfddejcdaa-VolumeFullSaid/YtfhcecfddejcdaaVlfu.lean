/- The law VolumeFull walked. -/
import Derived.Test.YtfhcecfddejcdaaVlsu
namespace Go.Proofs.Ytfhcecfddejcdaa
open Go.RowKit Go.Maps

def fulls (s k : Nat) (d : ByteArray) : VS := ⟨[zb, zb], List.replicate k (s, d), none, false⟩
theorem fulls_zero (s : Nat) (d : ByteArray) : fulls s 0 d = VS.new 2 := rfl
theorem fulls_write {s k : Nat} {d : ByteArray} (hs : s < 2) (hd : d.size = 256) (hk : k < 4096) : (fulls s k d).write (s : Int) d = (0, fulls s (k + 1) d) := by
  have hin : inR (s : Int) (fulls s k d).dur.length = true := by unfold inR fulls; simp; omega
  unfold VS.write
  rw [if_neg (by simp [fulls]), if_neg (by rw [hin]; simp), if_neg (by omega), if_neg (by simp [fulls]; omega)]
  unfold fulls VS.tick
  rw [Int.toNat_natCast, ← List.replicate_succ']
  rfl
theorem fulls_full {s k : Nat} {d : ByteArray} (hs : s < 2) (hd : d.size = 256) (hk : 4096 ≤ k) : (fulls s k d).write (s : Int) d = (37, fulls s k d) := by
  have hin : inR (s : Int) (fulls s k d).dur.length = true := by unfold inR fulls; simp; omega
  unfold VS.write
  rw [if_neg (by simp [fulls]), if_neg (by rw [hin]; simp), if_neg (by omega), if_pos (by simp [fulls]; exact hk)]
def fullb (s k : Nat) (d : ByteArray) : VS := ⟨flush (List.replicate k (s, d)) [zb, zb], [], none, false⟩
theorem fulls_barrier (s k : Nat) (d : ByteArray) : (fulls s k d).barrier = (0, fullb s k d) := by
  unfold VS.barrier fulls VS.tick fullb; simp
def fullc (s k : Nat) (d : ByteArray) : VS := ⟨flush (List.replicate k (s, d)) [zb, zb], [(s, d)], none, false⟩
theorem fullb_write {s k : Nat} {d : ByteArray} (hs : s < 2) (hd : d.size = 256) : (fullb s k d).write (s : Int) d = (0, fullc s k d) := by
  have hin : inR (s : Int) (fullb s k d).dur.length = true := by
    rw [show (fullb s k d).dur.length = 2 from flush_len _ _]
    unfold inR; simp; omega
  unfold VS.write
  rw [if_neg (by simp [fullb]), if_neg (by rw [hin]; simp), if_neg (by omega), if_neg (by simp [fullb])]
  unfold fullb VS.tick fullc
  rw [Int.toNat_natCast]
  rfl

set_option maxRecDepth 100000 in
set_option maxHeartbeats 2000000 in
theorem full_law (a : Nat) (ha : a < 256) (b : Nat) (hb : b < 256) (w : World) : Calls Try.prog 4 #[.int .u8 (a : Int), .int .u8 (b : Int)] w (LawPost w) := by
  obtain ⟨s, hs, hs2⟩ : ∃ s : Nat, ((a : Int) % 2) = (s : Int) ∧ s < 2 := ⟨a % 2, by omega, by omega⟩
  have sd := filled_size b
  go_enter Try.func4, Try.ntmps4
  go_wp2_with fail
  refine (new_own 2 w (by omega) (by omega)).mono ?_
  rintro e w1 ⟨vb, F1, rfl, h1⟩
  go_wp2_with fail
  refine (known_any _).mono ?_
  rintro e w2 ⟨rfl, hb2⟩
  have h2 := h1.below hb2
  clear h1 hb2
  go_wp2_with fail
  refine (filled_any b hb _).mono ?_
  rintro e w3 ⟨rfl, hb3⟩
  have h3 := h2.below hb3
  clear h2 hb3
  generalize filled b = d at *
  have SD := Lib.hid sd
  clear sd
  go_wp2_with fail
  go_loopw [8] (fun i wr => ∃ (k : Nat) (F : List Nat), k ≤ 4096 ∧ i = .int .i64 k ∧ Own w wr vb (fulls s k d) F) (fun i _ => 4096 - (intOf i).toNat)
  case atStart => exact ⟨0, F1, Nat.zero_le _, rfl, h3⟩
  case round =>
    obtain ⟨k, F, hk, rfl, hown⟩ := hrel
    clear h3
    by_cases hlt : k < 4096
    · have hlt' : (k : Int) < 4096 := by omega
      have HW := Lib.hid (fulls_write hs2 SD.out hlt)
      go_wp2_with fail
      refine (write_any s d hown.1).mono ?_
      rw [HW.out]
      rintro e w4 ⟨rfl, hs4⟩
      obtain ⟨F4, h4⟩ := hown.step hs4
      clear hown hs4
      go_wp2
      go_roundw
      case rel => exact ⟨k + 1, F4, by omega, by go_num, h4⟩
      case measure => simp [intOf]; omega
    · have hk2 : 4096 ≤ k := by omega
      have hk3 : ((k : Int) == 4096) = true := by rw [beq_iff_eq]; omega
      have HK : Hid (k = 4096) := Lib.hid (by omega)
      have HW := Lib.hid (fulls_full hs2 SD.out hk2)
      have HB := Lib.hid (fulls_barrier s k d)
      have HW2 := Lib.hid (fullb_write (k := k) hs2 SD.out)
      have HP := Lib.hid (show (sects (fulls s k d).pend).length = k from by simp [sects, fulls])
      have HP2 := Lib.hid (show (sects (fullc s k d).pend).length = 1 from rfl)
      go_wp2_with fail
      refine (write_any s d hown.1).mono ?_
      rw [HW.out]
      rintro e w4 ⟨rfl, hs4⟩
      obtain ⟨F4, h4⟩ := hown.step hs4
      clear hown hs4
      go_wp2_with fail
      obtain ⟨mb, pv, hv4, hF4⟩ := h4.1
      refine (pending_any hv4).mono ?_
      rintro e w5 ⟨v, rfl, ho5, hb5⟩
      have h5 := h4.below hb5
      rw [HP.out] at ho5
      have hpos : 0 < k := by omega
      obtain ⟨g, cap, rfl, _, _⟩ := ho5.form hpos
      clear hv4 hF4 h4 hb5 ho5
      go_wp2_with fail
      refine (barrier_any h5.1).mono ?_
      rw [HB.out]
      rintro e w6 ⟨rfl, hs6⟩
      obtain ⟨F6, h6⟩ := h5.step hs6
      clear h5 hs6
      go_wp2_with fail
      refine (write_any s d h6.1).mono ?_
      rw [HW2.out]
      rintro e w7 ⟨rfl, hs7⟩
      obtain ⟨F7, h7⟩ := h6.step hs7
      clear h6 hs7
      go_wp2_with fail
      obtain ⟨mb, pv, hv7, hF7⟩ := h7.1
      refine (pending_any hv7).mono ?_
      rintro e w8 ⟨v, rfl, ho8, hb8⟩
      have h8 := h7.below hb8
      rw [HP2.out] at ho8
      obtain ⟨g, cap, rfl, _, _⟩ := ho8.form (by omega)
      clear hv7 hF7 h7 hb8 ho8
      go_wp2
      go_ret
      exact ⟨rfl, h8.2.1⟩
theorem full_row (a : Int) (ha : (Lit.int .u8 a).wf = true) (b : Int) (hb : (Lit.int .u8 b).wf = true) (w : World) : Calls Try.prog 4 #[.int .u8 a, .int .u8 b] w (LawPost w) := by
  obtain ⟨a, rfl, ha'⟩ := u8nat ha
  obtain ⟨b, rfl, hb'⟩ := u8nat hb
  exact full_law a ha' b hb' w
end Go.Proofs.Ytfhcecfddejcdaa
