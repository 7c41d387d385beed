/- The walks of the reference's begins, beginning, Repair. -/
import Derived.Test.YtkoklnnlhfjbjaaWkP
namespace Go.Proofs.Ytkoklnnlhfjbjaa
open Go.RowKit
def pad (l : List UInt8) (c : UInt8) (j : Nat) : List UInt8 := l ++ List.replicate j c
def strSize : Value → Nat
  | .string x => x.size
  | _ => 0
theorem strSize_mk (l : List UInt8) : strSize (.string ⟨l.toArray⟩) = l.length := by simp [strSize, ByteArray.size]
theorem pad_len (l : List UInt8) (c : UInt8) (j : Nat) : (pad l c j).length = l.length + j := by unfold pad; simp
theorem pad_succ (l : List UInt8) (c : UInt8) (j : Nat) : pad l c j ++ [c] = pad l c (j + 1) := by
  unfold pad; rw [List.append_assoc, List.replicate_succ']
theorem lenD (s : ByteArray) : s.data.toList.length = s.size := by simp
theorem eta (t : ByteArray) : t = ⟨t.data.toList.toArray⟩ := by simp
theorem begR_no (s : ByteArray) (h0 : 0 < s.size) (h : (if s[0].toNat < 128 then 0 else U.rsize s[0].toNat) ≤ s.size) : U.begR s.data.toList = false := by
  rw [show s.data.toList = s[0] :: s.data.toList.drop 1 from drop_cons s 0 h0]
  simp only [U.begR]
  rw [if_pos (by rw [List.length_drop]; simp; omega)]
theorem begR_yes (s : ByteArray) (h0 : 0 < s.size) (n : Nat) (hr : U.rsize s[0].toNat = n) (h1 : ¬ s[0].toNat < 128) (h : s.size < n) :
    U.begR s.data.toList = (decide ((U.decR (pad s.data.toList 128 (n - s.size))).2 > 0) || decide ((U.decR (pad s.data.toList 191 (n - s.size))).2 > 0)) := by
  have hl : (s.data.toList.drop 1).length + 1 = s.size := by rw [List.length_drop]; simp; omega
  have he := drop_cons s 0 h0
  rw [List.drop_zero, Nat.zero_add] at he
  unfold pad
  rw [he]
  simp only [U.begR]
  rw [if_neg (by rw [if_neg h1, hr, hl]; omega), hr, hl]
theorem rdec_list (l : List UInt8) (a b : Nat) (hl : l.length ≤ 4294967296) (h : Hid (U.decR l = (a, b))) (w : World) :
    Calls Try.prog 26 #[.string ⟨l.toArray⟩] w fun e w' => e = .returned (.tuple #[.int .i64 a, .int .i64 b]) ∧ Below w.heap.size w w' := by
  refine (rdecode_any ⟨l.toArray⟩ (by simp [ByteArray.size]; omega) w).mono fun e w' h' => ?_
  obtain ⟨he, hb⟩ := h'
  have : (⟨l.toArray⟩ : ByteArray).data.toList = l := by simp
  rw [this, h.out] at he
  exact ⟨he, hb⟩
set_option maxRecDepth 100000 in
set_option maxHeartbeats 800000 in
theorem rbegins_no (s : ByteArray) (h0 : 0 < s.size) (hs : s.size ≤ 300) (hb : s[0].toNat < 256) (n : Nat) (hn : n ≤ s.size) (hc : (s[0].toNat < 192 ∧ n = 0) ∨ (192 ≤ s[0].toNat ∧ s[0].toNat < 224 ∧ n = 2) ∨ (224 ≤ s[0].toNat ∧ s[0].toNat < 240 ∧ n = 3) ∨ (240 ≤ s[0].toNat ∧ s[0].toNat < 248 ∧ n = 4) ∨ (248 ≤ s[0].toNat ∧ n = 0)) (hx : Hid (U.begR s.data.toList = false)) (w : World) :
    Calls Try.prog 47 #[.string s] w fun e w' => e = .returned (.bool (U.begR s.data.toList)) ∧ Below w.heap.size w w' := by
  rcases hc with ⟨g, rfl⟩ | ⟨g, g', rfl⟩ | ⟨g, g', rfl⟩ | ⟨g, g', rfl⟩ | ⟨g, rfl⟩
  all_goals
    go_enter Try.func47, Try.ntmps47
    go_wp2
    go_ret
    exact ⟨by rw [hx.out]; rfl, Below.refl _ _⟩
set_option maxRecDepth 100000 in
set_option maxHeartbeats 1600000 in
theorem rbegins_yes (s : ByteArray) (h0 : 0 < s.size) (hb : s[0].toNat < 256) (n : Nat) (hn : s.size < n) (hc : (192 ≤ s[0].toNat ∧ s[0].toNat < 224 ∧ n = 2) ∨ (224 ≤ s[0].toNat ∧ s[0].toNat < 240 ∧ n = 3) ∨ (240 ≤ s[0].toNat ∧ s[0].toNat < 248 ∧ n = 4))
    (hx : Hid (U.begR s.data.toList = (decide ((U.decR (pad s.data.toList 128 (n - s.size))).2 > 0) || decide ((U.decR (pad s.data.toList 191 (n - s.size))).2 > 0)))) (w : World) :
    Calls Try.prog 47 #[.string s] w fun e w' => e = .returned (.bool (U.begR s.data.toList)) ∧ Below w.heap.size w w' := by
  obtain ⟨a1, a2, ha⟩ : ∃ a1 a2, U.decR (pad s.data.toList 128 (n - s.size)) = (a1, a2) := ⟨_, _, rfl⟩
  obtain ⟨c1, c2, hc'⟩ : ∃ c1 c2, U.decR (pad s.data.toList 191 (n - s.size)) = (c1, c2) := ⟨_, _, rfl⟩
  rw [ha, hc'] at hx
  have Ha := Lib.hid ha
  have Hc := Lib.hid hc'
  clear ha hc'
  rcases hc with ⟨g, g', rfl⟩ | ⟨g, g', rfl⟩ | ⟨g, g', rfl⟩
  · have d1 : decide ((s[0].toNat : Int) < 224) = true := decide_eq_true (by omega)
    have d2 : decide ((s[0].toNat : Int) < 240) = true := decide_eq_true (by omega)
    have d3 : decide ((192 : Int) ≤ s[0].toNat) = true := decide_eq_true (by omega)
    have d4 : decide ((224 : Int) ≤ s[0].toNat) = false := decide_eq_false (by omega)
    have d5 : decide ((240 : Int) ≤ s[0].toNat) = false := decide_eq_false (by omega)
    have d6 : decide ((s[0].toNat : Int) < 248) = true := decide_eq_true (by omega)
    have d7 : decide ((2 : Int) ≤ s.size) = false := decide_eq_false (by omega)
    go_enter Try.func47, Try.ntmps47
    go_wp2
    go_loopw [3, 4] (fun u v wr => ∃ j : Nat, s.size + j ≤ 2 ∧ u = .string ⟨(pad s.data.toList 128 j).toArray⟩ ∧ v = .string ⟨(pad s.data.toList 191 j).toArray⟩ ∧ Below w.heap.size w wr) (fun u _ _ => 2 - strSize u)
    case atStart => exact ⟨0, by omega, by unfold pad; simp, by unfold pad; simp, Below.refl _ _⟩
    case round =>
      obtain ⟨j, hj, rfl, rfl, hbel⟩ := hrel
      have hp1 := Lib.hid (pad_len s.data.toList 128 j)
      have hp2 := Lib.hid (pad_len s.data.toList 191 j)
      have hsz := hbel.size
      have hsize : (⟨(pad s.data.toList 128 j).toArray⟩ : ByteArray).size = s.size + j := by show (pad s.data.toList 128 j).toArray.size = _; rw [List.size_toArray, hp1.out, lenD s]
      by_cases hjn : s.size + j < 2
      · have hadd1 := fun w : World => run_add_lists (P := Try.prog) w (pad s.data.toList 128 j) [128] (by rw [hp1.out, lenD s]; simp; omega)
        have hadd2 := fun w : World => run_add_lists (P := Try.prog) w (pad s.data.toList 191 j) [191] (by rw [hp2.out, lenD s]; simp; omega)
        rw [pad_succ] at hadd1 hadd2
        go_wp2
        go_roundw
        case rel => exact ⟨j + 1, by omega, rfl, rfl, hbel⟩
        case measure =>
          show 2 - strSize (.string ⟨(pad s.data.toList 128 (j + 1)).toArray⟩) < 2 - strSize (.string ⟨(pad s.data.toList 128 j).toArray⟩)
          rw [strSize_mk, strSize_mk, pad_len, hp1.out, lenD s]; omega
      · have hje := Lib.hid (show j = 2 - s.size by omega)
        have Ha2 := Lib.hid (show U.decR (pad s.data.toList 128 j) = (a1, a2) by rw [hje.out]; exact Ha.out)
        have Hc2 := Lib.hid (show U.decR (pad s.data.toList 191 j) = (c1, c2) by rw [hje.out]; exact Hc.out)
        have hl1 : Hid ((pad s.data.toList 128 j).length ≤ 4294967296) := Lib.hid (by rw [hp1.out, lenD s]; omega)
        have hl2 : Hid ((pad s.data.toList 191 j).length ≤ 4294967296) := Lib.hid (by rw [hp2.out, lenD s]; omega)
        clear Ha Hc
        by_cases q1 : a2 = 0
        · have Q1 := Lib.hid (show a2 ≤ 0 by omega)
          by_cases q2 : c2 = 0
          · have hx2 := Lib.hid (show U.begR s.data.toList = false by rw [hx.out]; simp [q1, q2])
            have e1 : decide ((0 : Int) < a2) = false := decide_eq_false (by omega)
            have Q2 := Lib.hid (show decide (0 < c2) = false from decide_eq_false (by omega))
            have e2 : decide ((0 : Int) < c2) = false := decide_eq_false (by omega)
            clear q1 q2
            go_wp2_with (first
              | (go_at_call 26; (with_reducible refine (rdec_list (pad s.data.toList 128 j) _ _ hl1.out Ha2 _).mono ?_); rintro e w1 ⟨rfl, hb1⟩; have hbel := hbel.trans (hb1.mono hbel.size))
              | (go_at_call 26; (with_reducible refine (rdec_list (pad s.data.toList 191 j) _ _ hl2.out Hc2 _).mono ?_); rintro e w2 ⟨rfl, hb2⟩; have hbel := hbel.trans (hb2.mono hbel.size)))
            all_goals first
              | (go_ret; exact ⟨(show Ending.returned (Value.bool (decide (0 < c2))) = _ by rw [hx2.out, Q2.out]), hbel⟩)
              | (exfalso; have := Q1.out; omega)
          · have hx2 := Lib.hid (show U.begR s.data.toList = true by rw [hx.out]; simp; omega)
            have e1 : decide ((0 : Int) < a2) = false := decide_eq_false (by omega)
            have Q2 := Lib.hid (show decide (0 < c2) = true from decide_eq_true (by omega))
            have e2 : decide ((0 : Int) < c2) = true := decide_eq_true (by omega)
            clear q1 q2
            go_wp2_with (first
              | (go_at_call 26; (with_reducible refine (rdec_list (pad s.data.toList 128 j) _ _ hl1.out Ha2 _).mono ?_); rintro e w1 ⟨rfl, hb1⟩; have hbel := hbel.trans (hb1.mono hbel.size))
              | (go_at_call 26; (with_reducible refine (rdec_list (pad s.data.toList 191 j) _ _ hl2.out Hc2 _).mono ?_); rintro e w2 ⟨rfl, hb2⟩; have hbel := hbel.trans (hb2.mono hbel.size)))
            all_goals first
              | (go_ret; exact ⟨(show Ending.returned (Value.bool (decide (0 < c2))) = _ by rw [hx2.out, Q2.out]), hbel⟩)
              | (exfalso; have := Q1.out; omega)
        · have hx2 := Lib.hid (show U.begR s.data.toList = true by rw [hx.out]; simp; omega)
          have e1 : decide ((0 : Int) < a2) = true := decide_eq_true (by omega)
          have Q1 := Lib.hid (show 0 < a2 by omega)
          clear q1
          go_wp2_with (first
            | (go_at_call 26; (with_reducible refine (rdec_list (pad s.data.toList 128 j) _ _ hl1.out Ha2 _).mono ?_); rintro e w1 ⟨rfl, hb1⟩; have hbel := hbel.trans (hb1.mono hbel.size))
            | (go_at_call 26; (with_reducible refine (rdec_list (pad s.data.toList 191 j) _ _ hl2.out Hc2 _).mono ?_); rintro e w2 ⟨rfl, hb2⟩; have hbel := hbel.trans (hb2.mono hbel.size)))
          all_goals first
            | (go_ret; exact ⟨by rw [hx2.out]; rfl, hbel⟩)
            | (exfalso; have := Q1.out; omega)
  · have d1 : decide ((s[0].toNat : Int) < 224) = false := decide_eq_false (by omega)
    have d2 : decide ((s[0].toNat : Int) < 240) = true := decide_eq_true (by omega)
    have d3 : decide ((192 : Int) ≤ s[0].toNat) = true := decide_eq_true (by omega)
    have d4 : decide ((224 : Int) ≤ s[0].toNat) = true := decide_eq_true (by omega)
    have d5 : decide ((240 : Int) ≤ s[0].toNat) = false := decide_eq_false (by omega)
    have d6 : decide ((s[0].toNat : Int) < 248) = true := decide_eq_true (by omega)
    have d7 : decide ((3 : Int) ≤ s.size) = false := decide_eq_false (by omega)
    go_enter Try.func47, Try.ntmps47
    go_wp2
    go_loopw [3, 4] (fun u v wr => ∃ j : Nat, s.size + j ≤ 3 ∧ u = .string ⟨(pad s.data.toList 128 j).toArray⟩ ∧ v = .string ⟨(pad s.data.toList 191 j).toArray⟩ ∧ Below w.heap.size w wr) (fun u _ _ => 3 - strSize u)
    case atStart => exact ⟨0, by omega, by unfold pad; simp, by unfold pad; simp, Below.refl _ _⟩
    case round =>
      obtain ⟨j, hj, rfl, rfl, hbel⟩ := hrel
      have hp1 := Lib.hid (pad_len s.data.toList 128 j)
      have hp2 := Lib.hid (pad_len s.data.toList 191 j)
      have hsz := hbel.size
      have hsize : (⟨(pad s.data.toList 128 j).toArray⟩ : ByteArray).size = s.size + j := by show (pad s.data.toList 128 j).toArray.size = _; rw [List.size_toArray, hp1.out, lenD s]
      by_cases hjn : s.size + j < 3
      · have hadd1 := fun w : World => run_add_lists (P := Try.prog) w (pad s.data.toList 128 j) [128] (by rw [hp1.out, lenD s]; simp; omega)
        have hadd2 := fun w : World => run_add_lists (P := Try.prog) w (pad s.data.toList 191 j) [191] (by rw [hp2.out, lenD s]; simp; omega)
        rw [pad_succ] at hadd1 hadd2
        go_wp2
        go_roundw
        case rel => exact ⟨j + 1, by omega, rfl, rfl, hbel⟩
        case measure =>
          show 3 - strSize (.string ⟨(pad s.data.toList 128 (j + 1)).toArray⟩) < 3 - strSize (.string ⟨(pad s.data.toList 128 j).toArray⟩)
          rw [strSize_mk, strSize_mk, pad_len, hp1.out, lenD s]; omega
      · have hje := Lib.hid (show j = 3 - s.size by omega)
        have Ha2 := Lib.hid (show U.decR (pad s.data.toList 128 j) = (a1, a2) by rw [hje.out]; exact Ha.out)
        have Hc2 := Lib.hid (show U.decR (pad s.data.toList 191 j) = (c1, c2) by rw [hje.out]; exact Hc.out)
        have hl1 : Hid ((pad s.data.toList 128 j).length ≤ 4294967296) := Lib.hid (by rw [hp1.out, lenD s]; omega)
        have hl2 : Hid ((pad s.data.toList 191 j).length ≤ 4294967296) := Lib.hid (by rw [hp2.out, lenD s]; omega)
        clear Ha Hc
        by_cases q1 : a2 = 0
        · have Q1 := Lib.hid (show a2 ≤ 0 by omega)
          by_cases q2 : c2 = 0
          · have hx2 := Lib.hid (show U.begR s.data.toList = false by rw [hx.out]; simp [q1, q2])
            have e1 : decide ((0 : Int) < a2) = false := decide_eq_false (by omega)
            have Q2 := Lib.hid (show decide (0 < c2) = false from decide_eq_false (by omega))
            have e2 : decide ((0 : Int) < c2) = false := decide_eq_false (by omega)
            clear q1 q2
            go_wp2_with (first
              | (go_at_call 26; (with_reducible refine (rdec_list (pad s.data.toList 128 j) _ _ hl1.out Ha2 _).mono ?_); rintro e w1 ⟨rfl, hb1⟩; have hbel := hbel.trans (hb1.mono hbel.size))
              | (go_at_call 26; (with_reducible refine (rdec_list (pad s.data.toList 191 j) _ _ hl2.out Hc2 _).mono ?_); rintro e w2 ⟨rfl, hb2⟩; have hbel := hbel.trans (hb2.mono hbel.size)))
            all_goals first
              | (go_ret; exact ⟨(show Ending.returned (Value.bool (decide (0 < c2))) = _ by rw [hx2.out, Q2.out]), hbel⟩)
              | (exfalso; have := Q1.out; omega)
          · have hx2 := Lib.hid (show U.begR s.data.toList = true by rw [hx.out]; simp; omega)
            have e1 : decide ((0 : Int) < a2) = false := decide_eq_false (by omega)
            have Q2 := Lib.hid (show decide (0 < c2) = true from decide_eq_true (by omega))
            have e2 : decide ((0 : Int) < c2) = true := decide_eq_true (by omega)
            clear q1 q2
            go_wp2_with (first
              | (go_at_call 26; (with_reducible refine (rdec_list (pad s.data.toList 128 j) _ _ hl1.out Ha2 _).mono ?_); rintro e w1 ⟨rfl, hb1⟩; have hbel := hbel.trans (hb1.mono hbel.size))
              | (go_at_call 26; (with_reducible refine (rdec_list (pad s.data.toList 191 j) _ _ hl2.out Hc2 _).mono ?_); rintro e w2 ⟨rfl, hb2⟩; have hbel := hbel.trans (hb2.mono hbel.size)))
            all_goals first
              | (go_ret; exact ⟨(show Ending.returned (Value.bool (decide (0 < c2))) = _ by rw [hx2.out, Q2.out]), hbel⟩)
              | (exfalso; have := Q1.out; omega)
        · have hx2 := Lib.hid (show U.begR s.data.toList = true by rw [hx.out]; simp; omega)
          have e1 : decide ((0 : Int) < a2) = true := decide_eq_true (by omega)
          have Q1 := Lib.hid (show 0 < a2 by omega)
          clear q1
          go_wp2_with (first
            | (go_at_call 26; (with_reducible refine (rdec_list (pad s.data.toList 128 j) _ _ hl1.out Ha2 _).mono ?_); rintro e w1 ⟨rfl, hb1⟩; have hbel := hbel.trans (hb1.mono hbel.size))
            | (go_at_call 26; (with_reducible refine (rdec_list (pad s.data.toList 191 j) _ _ hl2.out Hc2 _).mono ?_); rintro e w2 ⟨rfl, hb2⟩; have hbel := hbel.trans (hb2.mono hbel.size)))
          all_goals first
            | (go_ret; exact ⟨by rw [hx2.out]; rfl, hbel⟩)
            | (exfalso; have := Q1.out; omega)
  · have d1 : decide ((s[0].toNat : Int) < 224) = false := decide_eq_false (by omega)
    have d2 : decide ((s[0].toNat : Int) < 240) = false := decide_eq_false (by omega)
    have d3 : decide ((192 : Int) ≤ s[0].toNat) = true := decide_eq_true (by omega)
    have d4 : decide ((224 : Int) ≤ s[0].toNat) = true := decide_eq_true (by omega)
    have d5 : decide ((240 : Int) ≤ s[0].toNat) = true := decide_eq_true (by omega)
    have d6 : decide ((s[0].toNat : Int) < 248) = true := decide_eq_true (by omega)
    have d7 : decide ((4 : Int) ≤ s.size) = false := decide_eq_false (by omega)
    go_enter Try.func47, Try.ntmps47
    go_wp2
    go_loopw [3, 4] (fun u v wr => ∃ j : Nat, s.size + j ≤ 4 ∧ u = .string ⟨(pad s.data.toList 128 j).toArray⟩ ∧ v = .string ⟨(pad s.data.toList 191 j).toArray⟩ ∧ Below w.heap.size w wr) (fun u _ _ => 4 - strSize u)
    case atStart => exact ⟨0, by omega, by unfold pad; simp, by unfold pad; simp, Below.refl _ _⟩
    case round =>
      obtain ⟨j, hj, rfl, rfl, hbel⟩ := hrel
      have hp1 := Lib.hid (pad_len s.data.toList 128 j)
      have hp2 := Lib.hid (pad_len s.data.toList 191 j)
      have hsz := hbel.size
      have hsize : (⟨(pad s.data.toList 128 j).toArray⟩ : ByteArray).size = s.size + j := by show (pad s.data.toList 128 j).toArray.size = _; rw [List.size_toArray, hp1.out, lenD s]
      by_cases hjn : s.size + j < 4
      · have hadd1 := fun w : World => run_add_lists (P := Try.prog) w (pad s.data.toList 128 j) [128] (by rw [hp1.out, lenD s]; simp; omega)
        have hadd2 := fun w : World => run_add_lists (P := Try.prog) w (pad s.data.toList 191 j) [191] (by rw [hp2.out, lenD s]; simp; omega)
        rw [pad_succ] at hadd1 hadd2
        go_wp2
        go_roundw
        case rel => exact ⟨j + 1, by omega, rfl, rfl, hbel⟩
        case measure =>
          show 4 - strSize (.string ⟨(pad s.data.toList 128 (j + 1)).toArray⟩) < 4 - strSize (.string ⟨(pad s.data.toList 128 j).toArray⟩)
          rw [strSize_mk, strSize_mk, pad_len, hp1.out, lenD s]; omega
      · have hje := Lib.hid (show j = 4 - s.size by omega)
        have Ha2 := Lib.hid (show U.decR (pad s.data.toList 128 j) = (a1, a2) by rw [hje.out]; exact Ha.out)
        have Hc2 := Lib.hid (show U.decR (pad s.data.toList 191 j) = (c1, c2) by rw [hje.out]; exact Hc.out)
        have hl1 : Hid ((pad s.data.toList 128 j).length ≤ 4294967296) := Lib.hid (by rw [hp1.out, lenD s]; omega)
        have hl2 : Hid ((pad s.data.toList 191 j).length ≤ 4294967296) := Lib.hid (by rw [hp2.out, lenD s]; omega)
        clear Ha Hc
        by_cases q1 : a2 = 0
        · have Q1 := Lib.hid (show a2 ≤ 0 by omega)
          by_cases q2 : c2 = 0
          · have hx2 := Lib.hid (show U.begR s.data.toList = false by rw [hx.out]; simp [q1, q2])
            have e1 : decide ((0 : Int) < a2) = false := decide_eq_false (by omega)
            have Q2 := Lib.hid (show decide (0 < c2) = false from decide_eq_false (by omega))
            have e2 : decide ((0 : Int) < c2) = false := decide_eq_false (by omega)
            clear q1 q2
            go_wp2_with (first
              | (go_at_call 26; (with_reducible refine (rdec_list (pad s.data.toList 128 j) _ _ hl1.out Ha2 _).mono ?_); rintro e w1 ⟨rfl, hb1⟩; have hbel := hbel.trans (hb1.mono hbel.size))
              | (go_at_call 26; (with_reducible refine (rdec_list (pad s.data.toList 191 j) _ _ hl2.out Hc2 _).mono ?_); rintro e w2 ⟨rfl, hb2⟩; have hbel := hbel.trans (hb2.mono hbel.size)))
            all_goals first
              | (go_ret; exact ⟨(show Ending.returned (Value.bool (decide (0 < c2))) = _ by rw [hx2.out, Q2.out]), hbel⟩)
              | (exfalso; have := Q1.out; omega)
          · have hx2 := Lib.hid (show U.begR s.data.toList = true by rw [hx.out]; simp; omega)
            have e1 : decide ((0 : Int) < a2) = false := decide_eq_false (by omega)
            have Q2 := Lib.hid (show decide (0 < c2) = true from decide_eq_true (by omega))
            have e2 : decide ((0 : Int) < c2) = true := decide_eq_true (by omega)
            clear q1 q2
            go_wp2_with (first
              | (go_at_call 26; (with_reducible refine (rdec_list (pad s.data.toList 128 j) _ _ hl1.out Ha2 _).mono ?_); rintro e w1 ⟨rfl, hb1⟩; have hbel := hbel.trans (hb1.mono hbel.size))
              | (go_at_call 26; (with_reducible refine (rdec_list (pad s.data.toList 191 j) _ _ hl2.out Hc2 _).mono ?_); rintro e w2 ⟨rfl, hb2⟩; have hbel := hbel.trans (hb2.mono hbel.size)))
            all_goals first
              | (go_ret; exact ⟨(show Ending.returned (Value.bool (decide (0 < c2))) = _ by rw [hx2.out, Q2.out]), hbel⟩)
              | (exfalso; have := Q1.out; omega)
        · have hx2 := Lib.hid (show U.begR s.data.toList = true by rw [hx.out]; simp; omega)
          have e1 : decide ((0 : Int) < a2) = true := decide_eq_true (by omega)
          have Q1 := Lib.hid (show 0 < a2 by omega)
          clear q1
          go_wp2_with (first
            | (go_at_call 26; (with_reducible refine (rdec_list (pad s.data.toList 128 j) _ _ hl1.out Ha2 _).mono ?_); rintro e w1 ⟨rfl, hb1⟩; have hbel := hbel.trans (hb1.mono hbel.size))
            | (go_at_call 26; (with_reducible refine (rdec_list (pad s.data.toList 191 j) _ _ hl2.out Hc2 _).mono ?_); rintro e w2 ⟨rfl, hb2⟩; have hbel := hbel.trans (hb2.mono hbel.size)))
          all_goals first
            | (go_ret; exact ⟨by rw [hx2.out]; rfl, hbel⟩)
            | (exfalso; have := Q1.out; omega)
theorem rbegins_any (s : ByteArray) (h0 : 0 < s.size) (hs : s.size ≤ 300) (w : World) :
    Calls Try.prog 47 #[.string s] w fun e w' => e = .returned (.bool (U.begR s.data.toList)) ∧ Below w.heap.size w w' := by
  have hb := UInt8.toNat_lt s[0]
  rcases rs_cases s[0].toNat with h | ⟨h, h', hr⟩ | ⟨h, hr⟩ | ⟨h, h', hr, hl⟩ | ⟨h, h', hr, hl⟩ | ⟨h, h', hr, hl⟩
  · exact rbegins_no s h0 hs hb 0 (by omega) (Or.inl ⟨by omega, rfl⟩) (begR_no s h0 (by rw [if_pos h]; omega)) w
  · exact rbegins_no s h0 hs hb 0 (by omega) (Or.inl ⟨by omega, rfl⟩) (begR_no s h0 (by rw [if_neg (by omega), hr]; omega)) w
  · exact rbegins_no s h0 hs hb 0 (by omega) (Or.inr (Or.inr (Or.inr (Or.inr ⟨h, rfl⟩)))) (begR_no s h0 (by rw [if_neg (by omega), hr]; omega)) w
  · by_cases hn : 2 ≤ s.size
    · exact rbegins_no s h0 hs hb 2 hn (Or.inr (Or.inl ⟨h, h', rfl⟩)) (begR_no s h0 (by rw [if_neg (by omega), hr]; omega)) w
    · exact rbegins_yes s h0 hb 2 (by omega) (Or.inl ⟨h, h', rfl⟩) (begR_yes s h0 2 hr (by omega) (by omega)) w
  · by_cases hn : 3 ≤ s.size
    · exact rbegins_no s h0 hs hb 3 hn (Or.inr (Or.inr (Or.inl ⟨h, h', rfl⟩))) (begR_no s h0 (by rw [if_neg (by omega), hr]; omega)) w
    · exact rbegins_yes s h0 hb 3 (by omega) (Or.inr (Or.inl ⟨h, h', rfl⟩)) (begR_yes s h0 3 hr (by omega) (by omega)) w
  · by_cases hn : 4 ≤ s.size
    · exact rbegins_no s h0 hs hb 4 hn (Or.inr (Or.inr (Or.inr (Or.inl ⟨h, h', rfl⟩)))) (begR_no s h0 (by rw [if_neg (by omega), hr]; omega)) w
    · exact rbegins_yes s h0 hb 4 (by omega) (Or.inr (Or.inr ⟨h, h', rfl⟩)) (begR_yes s h0 4 hr (by omega) (by omega)) w
theorem begN_low (l : List UInt8) (n : Nat) (h : U.begR (l.take (n + 1)) = false) : U.begN l (n + 1) = U.begN l n := by simp [U.begN, h]
theorem begN_hit (l : List UInt8) (n : Nat) (h : U.begR (l.take (n + 1)) = true) : U.begN l (n + 1) = n + 1 := by simp [U.begN, h]
theorem rbegins_take (s : ByteArray) (n : Nat) (b : Bool) (h0 : 0 < n) (hn : n ≤ 3) (hs : n ≤ s.size) (h : Hid (U.begR (s.data.toList.take n) = b)) (w : World) :
    Calls Try.prog 47 #[.string (s.extract 0 n)] w fun e w' => e = .returned (.bool b) ∧ Below w.heap.size w w' := by
  have := rbegins_any (s.extract 0 n) (by simp; omega) (by simp; omega) w
  rw [Lib.extract_data, List.drop_zero, Nat.sub_zero, h.out] at this
  exact this
set_option maxRecDepth 100000 in
set_option maxHeartbeats 800000 in
theorem beginning_any (s : ByteArray) (hs : s.size ≤ 4294967296) (w : World) :
    Calls Try.prog 40 #[.string s] w fun e w' => e = .returned (.int .i64 (U.beginning s.data.toList)) ∧ Below w.heap.size w w' := by
  have hdef := Lib.hid (show U.beginning s.data.toList = U.begN s.data.toList (min 3 s.size) by unfold U.beginning; rw [lenD s])
  have hmin : min (3 : Int) (s.size : Int) = ((min 3 s.size : Nat) : Int) := by omega
  have hm3 : min 3 s.size ≤ 3 ∧ min 3 s.size ≤ s.size := by omega
  generalize min 3 s.size = m at hdef hmin hm3
  go_enter Try.func40, Try.ntmps40
  go_wp2
  go_loopw [3] (fun i wr => ∃ k : Nat, k ≤ m ∧ i = .int .i64 k ∧ U.begN s.data.toList k = U.begN s.data.toList m ∧ Below w.heap.size w wr) (fun i _ => (intOf i).toNat)
  case atStart => exact ⟨m, Nat.le_refl _, rfl, rfl, Below.refl _ _⟩
  case round =>
    obtain ⟨k, hk, rfl, hbn, hbel⟩ := hrel
    have Hbn := Lib.hid hbn
    clear hbn hmin
    obtain ⟨hm1, hm2⟩ := hm3
    match k with
    | 0 =>
      go_wp2
      go_ret
      exact ⟨by rw [hdef.out, ← Hbn.out]; rfl, hbel⟩
    | k + 1 =>
      obtain ⟨b, hq⟩ : ∃ b, U.begR (s.data.toList.take (k + 1)) = b := ⟨_, rfl⟩
      have Hq := Lib.hid hq
      cases b
      · have hlow := Lib.hid (begN_low _ _ hq)
        clear hq
        go_wp2_with (go_at_call 47; (with_reducible refine (rbegins_take s (k + 1) _ (by omega) (by omega) (by omega) Hq _).mono ?_); rintro e w1 ⟨rfl, hb1⟩; have hbel := hbel.trans (hb1.mono hbel.size))
        go_roundw
        case rel => exact ⟨k, by omega, by go_num, by rw [← hlow.out]; exact Hbn.out, hbel⟩
        case measure => (simp [intOf] <;> omega)
      · have hhit := Lib.hid (begN_hit _ _ hq)
        clear hq
        go_wp2_with (go_at_call 47; (with_reducible refine (rbegins_take s (k + 1) _ (by omega) (by omega) (by omega) Hq _).mono ?_); rintro e w1 ⟨rfl, hb1⟩; have hbel := hbel.trans (hb1.mono hbel.size))
        go_ret
        exact ⟨by rw [hdef.out, ← Hbn.out, hhit.out]; rfl, hbel⟩
end Go.Proofs.Ytkoklnnlhfjbjaa
