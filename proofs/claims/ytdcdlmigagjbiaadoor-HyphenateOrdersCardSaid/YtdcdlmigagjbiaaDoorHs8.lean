/- Parts walked. -/
import Derived.Test.YtdcdlmigagjbiaaDoorHs7
import Derived.Deep.QuietTactic
import Derived.IntWalk
namespace Go.Proofs.YtdcdlmigagjbiaaDoor
open Go.RowKit Go.Maps
theorem str_info : (Tryd.prog.info? 9).map (fun i => (i.zero, i.size, i.bytes)) = some (some (.string ⟨#[]⟩), 1, 16) := by kernel_rfl
def sv (s : List UInt8) : Value := .string ⟨s.toArray⟩
/-- a row of strings of the call's own -/
def SRow (w : World) (B : Nat) (v : Value) (l : List (List UInt8)) : Prop := w.ownsRow B 9 1 v l.length (l.map sv)
theorem SRow.nil (w : World) (B : Nat) : SRow w B (.slice none 0 0) [] := World.ownsRow_nil _ _ _ _
theorem SRow.below {w w' : World} {B : Nat} {v : Value} {l : List (List UInt8)} (h : SRow w B v l) (hb : Below w.heap.size w w') : SRow w' B v l :=
  row_turn h (Turn.ofBelow (F := []) hb (Nat.le_refl _)) (fun _ _ => by simp)
theorem SRow.app {w w1 : World} {B n : Nat} {v v' : Value} {l : List (List UInt8)} {s : List UInt8} {o : Obj} (hl : SRow w B v l) (hB : B ≤ w.heap.size) (hn : n = l.length + 1) (ho : w1.ownsRow B 9 1 v' n (l.map sv ++ [sv s])) (hg : (w.alloc o).grownBy w1 v.ownBlock) :
    SRow w1 B v' (l ++ [s]) ∧ Below B w w1 := by
  subst hn
  have t : Turn v.ownBlock.toList w w1 := ((Turn.refl _ w).alloc o).trans ((Turn.refl v.ownBlock.toList _).grown hg (fun g e => .inl (by rw [e]; simp))) (fun i hi => .inl hi)
  refine ⟨?_, t.toBelow (fun i hi => row_base hl i (by simpa using hi)) hB⟩
  unfold SRow
  rw [List.length_append, List.map_append]
  exact ho
theorem SRow.strs {w : World} {B : Nat} {v : Value} {l : List (List UInt8)} (h : SRow w B v l) : Strs w v l := by
  rcases Nat.eq_zero_or_pos l.length with h0 | hp
  · have hl := List.eq_nil_of_length_eq_zero h0
    subst hl
    obtain ⟨ao, cap, rfl⟩ := row_slice h
    exact ⟨ao, cap, rfl, fun h => absurd h (by simp)⟩
  · obtain ⟨g, cap, rfl, _, _, hlt, hc⟩ := row_cell h hp
    refine ⟨_, _, rfl, fun _ => ⟨g, 0, rfl, hlt, fun j hj => ?_⟩⟩
    rw [Nat.zero_add, hc j (by omega), List.getElem?_map, List.getElem?_eq_getElem hj, List.getD_eq_getElem?_getD, List.getElem?_eq_getElem hj]
    rfl
theorem extract_seg (s : List UInt8) (a b : Nat) : (⟨s.toArray⟩ : ByteArray).extract a b = ⟨((s.drop a).take (b - a)).toArray⟩ := by
  apply bytes_ext
  rw [Lib.extract_data]
def PartsPost (l : List (List UInt8)) (w : World) (e : Ending) (w' : World) : Prop := ∃ v, e = .returned v ∧ Below w.heap.size w w' ∧ Strs w' v l
set_option maxRecDepth 100000 in
set_option maxHeartbeats 4000000 in
theorem parts_yes {w : World} {B hb : Nat} {st : HS} (H : Hyph w B hb st) (G : Good st) {t : List UInt8} (ht : t.length ≤ 1000000) (h0 : t ≠ []) {ps : List Int} (hps : pointsP st (foldP t) = ps) (hpl : ps.length ≤ 1000000) (HI : InPts t ps) :
    Calls Tryd.prog 16 #[.pointer (some ⟨hb, 0, none⟩), .string ⟨t.toArray⟩] w (PartsPost (partsP t ps) w) := by
  obtain ⟨i0, hi, hz0, hz1, hz2⟩ := info_parts str_info
  have HP := Lib.hid (hpoints_any H G (t := t) (by omega))
  rw [hps] at HP
  have HIN := Lib.hid HI
  have e1 : (t == []) = false := by rw [beq_eq_false_iff_ne]; exact h0
  have e2 : ((⟨t.toArray⟩ : ByteArray).toList == (⟨#[]⟩ : ByteArray).toList) = false := seq_f (fun e => h0 (by have := congrArg (fun b : ByteArray => b.data.toList) e; exact this))
  clear hps HI h0 H G
  go_enter Tryd.func16, Tryd.ntmps16
  go_wp2_with (go_at_call 15; refine (HP.out).mono ?_; unfold LevPost; rintro e w1 ⟨v, rfl, hb1, hr1⟩; obtain ⟨pao, pcap, rfl⟩ := row_slice hr1; have HB1 := Lib.hid hb1; have HR1 := Lib.hid hr1; clear hb1 hr1)
  go_loopw [5, 6, 21] (fun ov lv i wr => ∃ (k : Nat) (out : List (List UInt8)), k ≤ ps.length ∧ i = .int .i64 (k : Int) ∧ lv = .int .i64 (oAt t ps k : Int) ∧ Hid (out = (List.range k).map (segAt t ps)) ∧ out.length ≤ k ∧ Hid (SRow wr w1.heap.size ov out) ∧ Hid (Below w1.heap.size w1 wr)) (fun _ _ i _ => ps.length - (intOf i).toNat)
  case atStart => exact ⟨0, [], Nat.zero_le _, rfl, rfl, Lib.hid rfl, Nat.zero_le _, Lib.hid (SRow.nil _ _), Lib.hid (Below.refl _ _)⟩
  case round =>
    obtain ⟨k, out, hk, rfl, rfl, HO, hol, HR, HB⟩ := hrel
    have hrs := HB.out.size
    by_cases hlk : k < ps.length
    · obtain ⟨vb, vo, rfl, hvlt, hvc, hvl, hvm⟩ := ints_pos (Ints.of_owns HR1.out) (by omega)
      have hcell := (HB.out.cell (p := ⟨vb, vo + k, none⟩) hvlt).trans (hvc k hlk)
      have HOF := Lib.hid (HIN.out.off hlk)
      have ho1 : oAt t ps (k + 1) = offN t (ps.getD k 0) := by unfold oAt; rw [if_neg (by omega), Nat.add_sub_cancel]
      have HSG := Lib.hid (show (List.range (k + 1)).map (segAt t ps) = (List.range k).map (segAt t ps) ++ [segAt t ps k] by rw [List.range_succ, List.map_append]; rfl)
      have hex := extract_seg t (oAt t ps k) (oAt t ps (k + 1))
      have hle1 := HIN.out.oAt_mono hlk
      have hle2 := HIN.out.oAt_le (i := k + 1) (by omega)
      have hsl : (segAt t ps k).length ≤ t.length := by unfold segAt; rw [List.length_take, List.length_drop]; omega
      have HO1 := Lib.hid ho1
      rw [← ho1] at HOF
      obtain ⟨x, hx⟩ : ∃ x, ps.getD k 0 = x := ⟨_, rfl⟩
      rw [hx] at hcell HOF
      rw [show (t.drop (oAt t ps k)).take (oAt t ps (k + 1) - oAt t ps k) = segAt t ps k from rfl] at hex
      obtain ⟨sg, hsg⟩ : ∃ sg, segAt t ps k = sg := ⟨_, rfl⟩
      rw [hsg] at hex hsl HSG
      obtain ⟨a, ha⟩ : ∃ a, oAt t ps k = a := ⟨_, rfl⟩
      obtain ⟨b, hb'⟩ : ∃ b, oAt t ps (k + 1) = b := ⟨_, rfl⟩
      rw [ha] at hex hle1 ⊢
      rw [hb'] at hex hle1 hle2 HOF
      have HBE := Lib.hid hb'
      have hab : (a : Int) ≤ (b : Int) := by omega
      have hbt : (b : Int) ≤ (t.length : Int) := by omega
      clear hvc hx ho1 hsg ha hb'
      go_wp2_with (first
        | (go_at_call 36; refine (offset_any ⟨t.toArray⟩ x (by rw [ba_size]; omega) _).mono ?_; rw [ba_data, HOF.out]; rintro e w2 ⟨rfl, hb2⟩; have HB2 := Lib.hid (HB.out.trans (hb2.mono hrs)); have HR2 := Lib.hid (HR.out.below hb2); have hs2 := hb2.size; clear hb2)
        | (go_at_call 37; refine (sclone_any ⟨sg.toArray⟩ _ (by rw [ba_size]; omega)).mono ?_; rintro e w3 ⟨rfl, hb3⟩; have HB3 := Lib.hid (HB2.out.trans (hb3.mono (by omega))); have HR3 := Lib.hid (HR2.out.below hb3); have hs3 := hb3.size; clear hb3)
        | (at_builtin; refine wpList_append_own_at _ rfl _ _ 28 rfl w1.heap.size 9 i0 (.string ⟨#[]⟩) 1 16 Tryd.underlying28 hi hz0 hz1 hz2 rfl (by decide) u5 out.length (out.map sv) rfl (World.ownsRow.alloc HR3.out _) ⟨w3.heap.size, 0, none⟩ 1 1 [sv sg] rfl rfl (cell_one_new _ _ _) (by intro u hu; simp at hu; subst hu; rfl) (by unfold maxLen; omega) (by omega) (by simp; omega) ?_; intro pv3 w5 hown hg _ hat; obtain ⟨s1, s2⟩ := SRow.app HR3.out (by omega) rfl hown hg; have S1 := Lib.hid s1; have S2 := Lib.hid (HB3.out.trans s2); clear s1 s2 hown hg hat))
      exact ⟨⟨k + 1, out ++ [sg], hlk, by go_num, by rw [HBE.out], Lib.hid (by rw [HSG.out, HO.out]), by simp; omega, S1, S2⟩, by simp [intOf]; omega⟩
    · have hke : k = ps.length := by omega
      subst hke
      have hle := HIN.out.oAt_le (i := ps.length) (Nat.le_refl _)
      have hex := extract_seg t (oAt t ps ps.length) t.length
      have HPT := Lib.hid (show partsP t ps = out ++ [t.drop (oAt t ps ps.length)] by rw [HO.out]; rfl)
      rw [List.take_of_length_le (by rw [List.length_drop]; omega)] at hex
      obtain ⟨sg, hsg⟩ : ∃ sg, t.drop (oAt t ps ps.length) = sg := ⟨_, rfl⟩
      have hsl : sg.length ≤ t.length := by rw [← hsg, List.length_drop]; omega
      rw [hsg] at hex HPT
      obtain ⟨a, ha⟩ : ∃ a, oAt t ps ps.length = a := ⟨_, rfl⟩
      rw [ha] at hex hle ⊢
      have hbt : (a : Int) ≤ (t.length : Int) := by omega
      have d7 : decide (ps.length < ps.length) = false := by simp
      clear hsg ha
      go_wp2_with (first
        | (go_at_call 37; refine (sclone_any ⟨sg.toArray⟩ _ (by rw [ba_size]; omega)).mono ?_; rintro e w3 ⟨rfl, hb3⟩; have HB3 := Lib.hid (HB.out.trans (hb3.mono (by omega))); have HR3 := Lib.hid (HR.out.below hb3); have hs3 := hb3.size; clear hb3)
        | (at_builtin; refine wpList_append_own_at _ rfl _ _ 28 rfl w1.heap.size 9 i0 (.string ⟨#[]⟩) 1 16 Tryd.underlying28 hi hz0 hz1 hz2 rfl (by decide) u5 out.length (out.map sv) rfl (World.ownsRow.alloc HR3.out _) ⟨w3.heap.size, 0, none⟩ 1 1 [sv sg] rfl rfl (cell_one_new _ _ _) (by intro u hu; simp at hu; subst hu; rfl) (by unfold maxLen; omega) (by omega) (by simp; omega) ?_; intro pv3 w5 hown hg _ hat; obtain ⟨s1, s2⟩ := SRow.app HR3.out (by omega) rfl hown hg; have S1 := Lib.hid s1; have S2 := Lib.hid (HB3.out.trans s2); clear s1 s2 hown hg hat))
      refine bodyPost_ret (v := pv3) (by simp [results, Tryd.f16, go_sem]) rfl ⟨_, rfl, HB1.out.trans (S2.out.mono HB1.out.size), by rw [HPT.out]; exact S1.out.strs⟩
end Go.Proofs.YtdcdlmigagjbiaaDoor
