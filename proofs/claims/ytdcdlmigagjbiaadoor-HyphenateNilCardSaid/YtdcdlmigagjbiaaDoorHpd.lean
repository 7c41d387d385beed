/- Points and Levels of any word, Last walked. -/
import Derived.Test.YtdcdlmigagjbiaaDoorHpo
namespace Go.Proofs.YtdcdlmigagjbiaaDoor
open Go.RowKit Go.Maps
theorem LevPost.nil {w : World} {e : Ending} {w' : World} (h : NilPost w e w') : LevPost [] w e w' := by
  obtain ⟨rfl, hb⟩ := h
  exact ⟨_, rfl, hb, int_nil _ _⟩
/-- what Levels returns of a folded word -/
def levP (st : HS) (t : List UInt8) : List Int := match wordP t with | none => [] | some l => levelsP st.pats l
theorem levels_any {w : World} {B hb : Nat} {st : HS} (H : Hyph w B hb st) (G : Good st) {t : List UInt8} (ht : t.length ≤ 100000000) :
    Calls Tryd.prog 14 #[.pointer (some ⟨hb, 0, none⟩), .string ⟨t.toArray⟩] w (LevPost (levP st (foldP t)) w) := by
  unfold levP
  cases hw : wordP (foldP t) with
  | none => exact (levels_no hw ht _ _).mono fun e w' h => LevPost.nil h
  | some L => exact levels_yes H hw ht G.ok
theorem hpoints_any {w : World} {B hb : Nat} {st : HS} (H : Hyph w B hb st) (G : Good st) {t : List UInt8} (ht : t.length ≤ 100000000) :
    Calls Tryd.prog 15 #[.pointer (some ⟨hb, 0, none⟩), .string ⟨t.toArray⟩] w (LevPost (pointsP st (foldP t)) w) := by
  cases hw : wordP (foldP t) with
  | none =>
    have : pointsP st (foldP t) = [] := by unfold pointsP; rw [hw]
    rw [this]
    exact (points_no hw ht _ _).mono fun e w' h => LevPost.nil h
  | some L => exact points_yes H G hw ht
/-- the last of the numbers that are not greater than most -/
def lastP (most : Int) (l : List Int) : Int × Bool := l.foldl (fun a p => if p ≤ most then (p, true) else a) (0, false)
theorem lastP_snoc (most : Int) (l : List Int) (x : Int) : lastP most (l ++ [x]) = if x ≤ most then (x, true) else lastP most l := by
  unfold lastP; rw [List.foldl_append]; rfl
def LastPost (r : Int × Bool) (w : World) (e : Ending) (w' : World) : Prop := e = .returned (.tuple #[.int .i64 r.1, .bool r.2]) ∧ Below w.heap.size w w'
theorem last_nil (t : List UInt8) (most : Int) (w : World) : Calls Tryd.prog 13 #[.pointer none, .string ⟨t.toArray⟩, .int .i64 most] w (LastPost (0, false) w) := by
  go_enter Tryd.func13, Tryd.ntmps13
  go_wp2_with (go_at_call 15; refine (points_nil t _).mono ?_; rintro e w1 ⟨rfl, hb1⟩; have HB1 := Lib.hid hb1; clear hb1)
  go_loopw [8, 9, 16] (fun nv bv i wr => nv = .int .i64 0 ∧ bv = .bool false ∧ i = .int .i64 0 ∧ wr = w1) (fun _ _ _ _ => 0)
  case atStart => exact ⟨rfl, rfl, rfl, rfl⟩
  case round =>
    obtain ⟨rfl, rfl, rfl, rfl⟩ := hrel
    go_wp2_with fail
    refine bodyPost_ret (v := .tuple #[.int .i64 0, .bool false]) (by simp [results, Tryd.f13, go_sem]) rfl ⟨rfl, HB1.out⟩
theorem last_any {w : World} {B hb : Nat} {st : HS} (H : Hyph w B hb st) (G : Good st) {t : List UInt8} (ht : t.length ≤ 100000000) (most : Int) :
    Calls Tryd.prog 13 #[.pointer (some ⟨hb, 0, none⟩), .string ⟨t.toArray⟩, .int .i64 most] w (LastPost (lastP most (pointsP st (foldP t))) w) := by
  have HP := Lib.hid (hpoints_any H G ht)
  obtain ⟨out, ho⟩ : ∃ out, pointsP st (foldP t) = out := ⟨_, rfl⟩
  rw [ho] at HP ⊢
  clear ho H G
  go_enter Tryd.func13, Tryd.ntmps13
  go_wp2_with (go_at_call 15; refine (HP.out).mono ?_; unfold LevPost; rintro e w1 ⟨v, rfl, hb1, hr1⟩; obtain ⟨lao, lcap, rfl⟩ := row_slice hr1; have HB1 := Lib.hid hb1; have HR1 := Lib.hid hr1; clear hb1 hr1)
  go_loopw [8, 9, 16] (fun nv bv i wr => ∃ (k : Nat) (n : Int) (b : Bool), k ≤ out.length ∧ nv = .int .i64 n ∧ bv = .bool b ∧ i = .int .i64 (k : Int) ∧ wr = w1 ∧ Hid (lastP most (out.take k) = (n, b))) (fun _ _ i _ => out.length - (intOf i).toNat)
  case atStart => exact ⟨0, 0, false, Nat.zero_le _, rfl, rfl, rfl, rfl, Lib.hid rfl⟩
  case round =>
    obtain ⟨k, n, b, hk, rfl, rfl, rfl, rfl, HL⟩ := hrel
    by_cases hlk : k < out.length
    · obtain ⟨vb, vo, rfl, hvlt, hvc, hvl, hvm⟩ := ints_pos (Ints.of_owns HR1.out) (by omega)
      have hcell := hvc k hlk
      have htk := take_snoc out 0 k hlk
      obtain ⟨x, hx⟩ : ∃ x, out.getD k 0 = x := ⟨_, rfl⟩
      rw [hx] at hcell htk
      have hls := lastP_snoc most (out.take k) x
      rw [← htk] at hls
      have HLS := Lib.hid hls
      have hkm : k + 1 ≤ 9223372036854775807 := by have := Nat.le_trans hvl hvm; unfold maxLen at this; omega
      clear hvc hx htk hls
      by_cases g : x ≤ most
      · have HL2 := Lib.hid (show lastP most (out.take (k + 1)) = (x, true) from by rw [HLS.out, if_pos g])
        go_wp2_with fail
        exact ⟨⟨k + 1, x, true, hlk, by simp, by simp, by go_num, by simp, HL2⟩, by simp [intOf]; omega⟩
      · have HL2 := Lib.hid (show lastP most (out.take (k + 1)) = (n, b) from by rw [HLS.out, if_neg g]; exact HL.out)
        go_wp2_with fail
        exact ⟨⟨k + 1, n, b, hlk, by simp, by simp, by go_num, by simp, HL2⟩, by simp [intOf]; omega⟩
    · have hke : k = out.length := by omega
      subst hke
      have hl : lastP most out = (n, b) := by have := HL.out; rwa [List.take_length] at this
      have HL2 := Lib.hid hl
      clear hl HL
      go_wp2_with fail
      refine bodyPost_ret (v := .tuple #[.int .i64 n, .bool b]) (by simp [results, Tryd.f13, go_sem]) rfl ⟨by rw [HL2.out], HB1.out⟩
theorem parts_nil (t : List UInt8) (w : World) : Calls Tryd.prog 16 #[.pointer none, .string ⟨t.toArray⟩] w (NilPost w) := by
  go_enter Tryd.func16, Tryd.ntmps16
  go_wp2_with fail
  refine bodyPost_ret (v := .slice none 0 0) (by simp [results, Tryd.f16, go_sem]) rfl ⟨rfl, Below.refl _ _⟩
end Go.Proofs.YtdcdlmigagjbiaaDoor
