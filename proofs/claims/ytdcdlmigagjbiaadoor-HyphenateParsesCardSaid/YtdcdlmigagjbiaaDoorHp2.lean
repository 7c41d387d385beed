/- The law Parses. -/
import Derived.Test.YtdcdlmigagjbiaaDoorHs2m
import Derived.Test.YtdcdlmigagjbiaaDoorHop
namespace Go.Proofs.YtdcdlmigagjbiaaDoor
open Go.RowKit Go.Maps
theorem patV_zero : (Value.agg #[.string ⟨#[]⟩, .slice none 0 0, .bool false, .bool false] : Value) = patV .zero (.slice none 0 0) := rfl
theorem par2_cases (t : List UInt8) : ((U.bad t).isEmpty = false ∧ parseP t = (12, .zero) ∧ par2 t = (.zero, false)) ∨ ((U.bad t).isEmpty = true ∧ ((∃ Q, parseP t = (14, .zero) ∧ par2 t = (Q, false)) ∨ (∃ Q, parseP t = (0, Q) ∧ par2 t = (Q, true)))) := by
  cases hb : (U.bad t).isEmpty with
  | false => exact .inl ⟨rfl, parseP_bad hb, par2_bad hb⟩
  | true =>
    refine .inr ⟨rfl, ?_⟩
    rw [par2_ok hb]
    by_cases h : printP (patOf (ptsI t)) = (0, t)
    · exact .inr ⟨_, parseP_ok hb h, by rw [decide_eq_true h]⟩
    · exact .inl ⟨_, parseP_no hb h, by rw [decide_eq_false h]⟩
theorem parseGo_le (l : List Int) (lv : Int) : (parseGo lv l).2.length ≤ l.length + 1 := by
  have := parseGo_len l lv; omega
theorem par2_levels (t : List UInt8) : (par2 t).1.levels.length ≤ t.length + 1 := by
  unfold par2
  split
  · show ([] : List Int).length ≤ _; simp
  · show (parseGo 0 (stripE (stripB (ptsI t)))).2.length ≤ _
    have h1 := parseGo_le (stripE (stripB (ptsI t))) 0
    have h2 := strip_len (ptsI t)
    have h3 := pts_len0 ⟨t.toArray⟩
    have h3' : (ptsI t).length ≤ t.length := h3
    omega
theorem extract_list (s : List UInt8) (n : Nat) : (⟨s.toArray⟩ : ByteArray).extract 0 n = ⟨(s.take n).toArray⟩ := by
  apply bytes_ext
  rw [extract_take]
set_option maxRecDepth 100000 in
set_option maxHeartbeats 3200000 in
theorem parses_law (s : List UInt8) (w : World) : Calls Tryd.prog 5 #[.string ⟨s.toArray⟩] w (KnPost w) := by
  obtain ⟨t, n, ht, hn, hnl, hmin⟩ : ∃ t n, s.take n = t ∧ n ≤ 100 ∧ n ≤ s.length ∧ min (s.length : Int) 100 = (n : Int) := by
    rcases Nat.lt_or_ge 100 s.length with h | h
    · exact ⟨_, 100, rfl, Nat.le_refl _, by omega, by omega⟩
    · exact ⟨_, s.length, rfl, h, Nat.le_refl _, by omega⟩
  have htl : t.length ≤ 100 := by rw [← ht, List.length_take]; omega
  have hext : (⟨s.toArray⟩ : ByteArray).extract 0 n = ⟨t.toArray⟩ := by rw [extract_list, ht]
  have hni : (n : Int) ≤ (s.length : Int) := by omega
  have HPA := Lib.hid (fun w => parse_any t (by omega) w)
  have HP2 := Lib.hid (fun w => parse2_any t (by omega) w)
  have HLV := Lib.hid (par2_levels t)
  unfold ParsePost at HPA
  unfold Par2Post at HP2
  clear ht
  rcases par2_cases t with ⟨hb, e1, e2⟩ | ⟨hb, ⟨Q, e1, e2⟩ | ⟨Q, e1, e2⟩⟩
  · rw [e1] at HPA
    rw [e2] at HP2
    have HB := Lib.hid hb
    have HSP := Lib.hid (show sameP .zero .zero = true by simp [sameP])
    clear hb e1 e2
    go_enter Tryd.func5, Tryd.ntmps5
    go_wp2_with (first
      | (go_at_call 20; refine (HPA.out _).mono ?_; rintro e w1 ⟨pv, rfl, hb1, hr1⟩; obtain ⟨pao, pcap, rfl⟩ := row_slice (k := 0) hr1; unfold patV Pat.zero; have HB1 := Lib.hid (hb1.alloc hb1.size (.cells #[.string ⟨#[]⟩, .slice pao 0 pcap, .bool false, .bool false] 33)); have hs1 := HB1.out.size; have HR1 := Lib.hid ((Ints.of_owns hr1).below ((Below.refl _ w1).alloc (Nat.le_refl _) (.cells #[.string ⟨#[]⟩, .slice pao 0 pcap, .bool false, .bool false] 33))); have BK1 := Lib.hid (Blk.new w1 33 #[.string ⟨#[]⟩, .slice pao 0 pcap, .bool false, .bool false]); clear hb1 hr1)
      | (go_at_call 12; refine (known_any _).mono ?_; unfold KnPost; rintro e w2 ⟨rfl, hb2⟩; have HB2 := Lib.hid (HB1.out.trans (hb2.mono hs1)); have hs2 := HB2.out.size; have HR2 := Lib.hid (HR1.out.below hb2); have BK2 := Lib.hid (BK1.out.below hb2 BK1.out.lt); clear hb2)
      | (go_at_call 22; refine (HP2.out _).mono ?_; rintro e w3 ⟨qv, rfl, hb3, hr3⟩; obtain ⟨qao, qcap, rfl⟩ := row_slice (k := 0) hr3; unfold patV Pat.zero; have HB3 := Lib.hid ((HB2.out.trans (hb3.mono hs2)).alloc (by have := hb3.size; omega) (.cells #[.string ⟨#[]⟩, .slice qao 0 qcap, .bool false, .bool false] 33)); have hs3 := HB3.out.size; have HR3 := Lib.hid ((HR2.out.below hb3).below ((Below.refl _ w3).alloc (Nat.le_refl _) (.cells #[.string ⟨#[]⟩, .slice qao 0 qcap, .bool false, .bool false] 33))); obtain ⟨p0, p1, p2, p3⟩ := ((BK2.out.below hb3 BK2.out.lt).alloc (.cells #[.string ⟨#[]⟩, .slice qao 0 qcap, .bool false, .bool false] 33)).four; clear hb3 hr3)
      | (go_at_call 23; (with_reducible refine (valid_at ⟨t.toArray⟩ false (by rw [ba_size]; omega) HB _).mono ?_); rintro e w' ⟨rfl, rfl⟩)
      | (go_at_call 21; refine (samePat_any .zero .zero (.slice pao 0 pcap) (.slice none 0 0) _ HR3.out (Ints.nil _) (by decide) (by decide)).mono ?_; unfold BoolPost; rw [HSP.out]; rintro e w5 ⟨rfl, hb5⟩))
    refine bodyPost_ret (v := .bool true) (by simp [results, Tryd.f5, go_sem]) rfl ⟨rfl, HB3.out.trans (hb5.mono hs3)⟩
  · rw [e1] at HPA
    rw [e2] at HP2
    have HB := Lib.hid hb
    have HSP := Lib.hid (show sameP .zero .zero = true by simp [sameP])
    clear hb e1 e2
    go_enter Tryd.func5, Tryd.ntmps5
    go_wp2_with (first
      | (go_at_call 20; refine (HPA.out _).mono ?_; rintro e w1 ⟨pv, rfl, hb1, hr1⟩; obtain ⟨pao, pcap, rfl⟩ := row_slice (k := 0) hr1; unfold patV Pat.zero; have HB1 := Lib.hid (hb1.alloc hb1.size (.cells #[.string ⟨#[]⟩, .slice pao 0 pcap, .bool false, .bool false] 33)); have hs1 := HB1.out.size; have HR1 := Lib.hid ((Ints.of_owns hr1).below ((Below.refl _ w1).alloc (Nat.le_refl _) (.cells #[.string ⟨#[]⟩, .slice pao 0 pcap, .bool false, .bool false] 33))); have BK1 := Lib.hid (Blk.new w1 33 #[.string ⟨#[]⟩, .slice pao 0 pcap, .bool false, .bool false]); clear hb1 hr1)
      | (go_at_call 12; refine (known_any _).mono ?_; unfold KnPost; rintro e w2 ⟨rfl, hb2⟩; have HB2 := Lib.hid (HB1.out.trans (hb2.mono hs1)); have hs2 := HB2.out.size; have HR2 := Lib.hid (HR1.out.below hb2); have BK2 := Lib.hid (BK1.out.below hb2 BK1.out.lt); clear hb2)
      | (go_at_call 22; refine (HP2.out _).mono ?_; rintro e w3 ⟨qv, rfl, hb3, hr3⟩; obtain ⟨qao, qcap, rfl⟩ := row_slice hr3; unfold patV; have HB3 := Lib.hid ((HB2.out.trans (hb3.mono hs2)).alloc (by have := hb3.size; omega) (.cells #[.string ⟨Q.letters.toArray⟩, .slice qao Q.levels.length qcap, .bool Q.beg, .bool Q.fin] 33)); have hs3 := HB3.out.size; have HR3 := Lib.hid ((HR2.out.below hb3).below ((Below.refl _ w3).alloc (Nat.le_refl _) (.cells #[.string ⟨Q.letters.toArray⟩, .slice qao Q.levels.length qcap, .bool Q.beg, .bool Q.fin] 33))); obtain ⟨p0, p1, p2, p3⟩ := ((BK2.out.below hb3 BK2.out.lt).alloc (.cells #[.string ⟨Q.letters.toArray⟩, .slice qao Q.levels.length qcap, .bool Q.beg, .bool Q.fin] 33)).four; clear hb3 hr3)
      | (go_at_call 23; (with_reducible refine (valid_at ⟨t.toArray⟩ true (by rw [ba_size]; omega) HB _).mono ?_); rintro e w' ⟨rfl, rfl⟩)
      | (go_at_call 21; refine (samePat_any .zero .zero (.slice pao 0 pcap) (.slice none 0 0) _ HR3.out (Ints.nil _) (by decide) (by decide)).mono ?_; unfold BoolPost; rw [HSP.out]; rintro e w5 ⟨rfl, hb5⟩))
    refine bodyPost_ret (v := .bool true) (by simp [results, Tryd.f5, go_sem]) rfl ⟨rfl, HB3.out.trans (hb5.mono hs3)⟩
  · rw [e1] at HPA
    rw [e2] at HP2 HLV
    have HB := Lib.hid hb
    have HSP := Lib.hid (show sameP Q Q = true by simp [sameP])
    have hql : Q.levels.length ≤ 1000000000 := by have := HLV.out; have h2 : Q.levels.length ≤ t.length + 1 := this; omega
    clear hb e1 e2
    go_enter Tryd.func5, Tryd.ntmps5
    go_wp2_with (first
      | (go_at_call 20; refine (HPA.out _).mono ?_; rintro e w1 ⟨pv, rfl, hb1, hr1⟩; obtain ⟨pao, pcap, rfl⟩ := row_slice hr1; unfold patV; have HB1 := Lib.hid (hb1.alloc hb1.size (.cells #[.string ⟨Q.letters.toArray⟩, .slice pao Q.levels.length pcap, .bool Q.beg, .bool Q.fin] 33)); have hs1 := HB1.out.size; have HR1 := Lib.hid ((Ints.of_owns hr1).below ((Below.refl _ w1).alloc (Nat.le_refl _) (.cells #[.string ⟨Q.letters.toArray⟩, .slice pao Q.levels.length pcap, .bool Q.beg, .bool Q.fin] 33))); have BK1 := Lib.hid (Blk.new w1 33 #[.string ⟨Q.letters.toArray⟩, .slice pao Q.levels.length pcap, .bool Q.beg, .bool Q.fin]); clear hb1 hr1)
      | (go_at_call 12; refine (known_any _).mono ?_; unfold KnPost; rintro e w2 ⟨rfl, hb2⟩; have HB2 := Lib.hid (HB1.out.trans (hb2.mono hs1)); have hs2 := HB2.out.size; have HR2 := Lib.hid (HR1.out.below hb2); have BK2 := Lib.hid (BK1.out.below hb2 BK1.out.lt); clear hb2)
      | (go_at_call 22; refine (HP2.out _).mono ?_; rintro e w3 ⟨qv, rfl, hb3, hr3⟩; obtain ⟨qao, qcap, rfl⟩ := row_slice hr3; unfold patV; have HB3 := Lib.hid ((HB2.out.trans (hb3.mono hs2)).alloc (by have := hb3.size; omega) (.cells #[.string ⟨Q.letters.toArray⟩, .slice qao Q.levels.length qcap, .bool Q.beg, .bool Q.fin] 33)); have hs3 := HB3.out.size; have HR3 := Lib.hid ((HR2.out.below hb3).below ((Below.refl _ w3).alloc (Nat.le_refl _) (.cells #[.string ⟨Q.letters.toArray⟩, .slice qao Q.levels.length qcap, .bool Q.beg, .bool Q.fin] 33))); have HQ3 := Lib.hid ((Ints.of_owns hr3).below ((Below.refl _ w3).alloc (Nat.le_refl _) (.cells #[.string ⟨Q.letters.toArray⟩, .slice qao Q.levels.length qcap, .bool Q.beg, .bool Q.fin] 33))); obtain ⟨p0, p1, p2, p3⟩ := ((BK2.out.below hb3 BK2.out.lt).alloc (.cells #[.string ⟨Q.letters.toArray⟩, .slice qao Q.levels.length qcap, .bool Q.beg, .bool Q.fin] 33)).four; obtain ⟨q0, q1, q2, q3⟩ := (Blk.new w3 33 #[.string ⟨Q.letters.toArray⟩, .slice qao Q.levels.length qcap, .bool Q.beg, .bool Q.fin]).four; clear hb3 hr3)
      | (go_at_call 23; (with_reducible refine (valid_at ⟨t.toArray⟩ true (by rw [ba_size]; omega) HB _).mono ?_); rintro e w' ⟨rfl, rfl⟩)
      | (go_at_call 21; refine (samePat_any Q Q (.slice pao Q.levels.length pcap) (.slice qao Q.levels.length qcap) _ HR3.out HQ3.out hql hql).mono ?_; unfold BoolPost; rw [HSP.out]; rintro e w5 ⟨rfl, hb5⟩))
    refine bodyPost_ret (v := .bool true) (by simp [results, Tryd.f5, go_sem]) rfl ⟨rfl, HB3.out.trans (hb5.mono hs3)⟩
theorem parses_row (a : ByteArray) (_ : a.size ≤ maxLen) {w : World} : Calls Tryd.prog 5 #[.string a] w (KnPost w) := by
  have := parses_law a.data.toList w
  rw [str_back] at this
  exact this
end Go.Proofs.YtdcdlmigagjbiaaDoor
