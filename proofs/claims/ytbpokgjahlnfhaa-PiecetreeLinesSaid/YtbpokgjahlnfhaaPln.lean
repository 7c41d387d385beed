/- LineAt walked. -/
import Derived.Test.YtbpokgjahlnfhaaPlm
import Derived.Test.YtbpokgjahlnfhaaPtw
namespace Go.Proofs.Ytbpokgjahlnfhaa
open Go.RowKit

/-- the number of line feeds of a list -/
def fcnt (L : List UInt8) : Nat := (L.filter (· == 10)).length
theorem fcnt_append (A B : List UInt8) : fcnt (A ++ B) = fcnt A + fcnt B := by simp [fcnt]
theorem fcnt_le (A : List UInt8) : fcnt A ≤ A.length := List.length_filter_le _ _
/-- the number of line feeds ahead of an offset -/
def Tr.feedsTo (t : Tr) (a : Nat) : Nat := fcnt (t.bytes.take a)
theorem Tr.feeds_fcnt (t : Tr) : t.feeds = fcnt t.bytes := rfl
theorem feedsTo_nil (a : Nat) : Tr.nil.feedsTo a = 0 := by simp [Tr.feedsTo, Tr.bytes, fcnt]
theorem feedsTo_left (l : Tr) (p : List UInt8) (r : Tr) {a : Nat} (h : a ≤ l.size) : (Tr.node l p r).feedsTo a = l.feedsTo a := by
  unfold Tr.feedsTo
  simp only [Tr.bytes]
  rw [List.append_assoc, List.take_append_of_le_length (show a ≤ l.bytes.length from h)]
theorem feedsTo_mid (l : Tr) (p : List UInt8) (r : Tr) {k : Nat} (h : k ≤ p.length) : (Tr.node l p r).feedsTo (l.size + k) = l.feeds + fcnt (p.take k) := by
  unfold Tr.feedsTo
  simp only [Tr.bytes]
  rw [List.append_assoc, show l.size = l.bytes.length from rfl, List.take_length_add_append, List.take_append_of_le_length h, fcnt_append]
  rfl
theorem feedsTo_right (l : Tr) (p : List UInt8) (r : Tr) (k : Nat) : (Tr.node l p r).feedsTo (l.size + (p.length + k)) = l.feeds + fcnt p + r.feedsTo k := by
  unfold Tr.feedsTo
  simp only [Tr.bytes]
  rw [List.append_assoc, show l.size = l.bytes.length from rfl, List.take_length_add_append, List.take_length_add_append, fcnt_append, fcnt_append]
  show fcnt l.bytes + (fcnt p + _) = fcnt l.bytes + fcnt p + _
  omega

/-- the height that stands in a node's cell -/
def highOf (w : World) : Value → Nat
  | .pointer (some a) => match w.cell? ⟨a.block, 5, none⟩ with
    | some (.int _ h) => h.toNat
    | _ => 0
  | _ => 0
theorem highOf_nd {t : Tr} {w : World} {v : Value} (h : Nd t w v) : highOf w v = t.high := by
  cases t with
  | nil => obtain rfl := h.nil_ptr; rfl
  | node l p r =>
    obtain ⟨b, lv, rv, s, rfl, hs, hb, _, _⟩ := h
    have c5 := hb.cell 5
    simp at c5
    simp [highOf, c5]
set_option maxHeartbeats 4000000 in
theorem lineAt_ok (a : Nat) {w : World} {tb : Nat} {t : Tr} (h : Tree w tb t) (ho : t.okay) (ha : a ≤ t.size) :
    Calls Try.prog 33 #[.pointer (some ⟨tb, 0, none⟩), .int .i64 (a : Int)] w fun e w' => e = .returned (.tuple #[.int .i64 (t.feedsTo a : Int), .int .i64 0]) ∧ ∃ n, w' = w.drewN n := by
  have hT := h
  obtain ⟨rv, h1, h2⟩ := h
  have c0 := h1.cell 0
  simp at c0
  clear h1
  obtain ⟨p, rfl⟩ := h2.ptr
  have hs : t.size ≤ 200000 := by have := ho.2; omega
  have hw : wrongNo t.size a a = 0 := if_neg (by omega)
  have HW := Lib.hid hw
  clear hw
  go_enter Try.func33, Try.ntmps33
  go_wp2_with (go_at_call 37; refine (wrong_any _ _ hT).mono ?_; rw [HW.out]; rintro e w1 ⟨rfl, rfl⟩)
  go_loopw [1, 7, 8] (fun av nv xv wr => ∃ (u : Tr) (a' n' m : Nat), av = .int .i64 (a' : Int) ∧ nv = .int .i64 (n' : Int) ∧ Nd u w xv ∧ u.size ≤ 200000 ∧ n' + u.feedsTo a' = t.feedsTo a ∧ n' ≤ 200000 ∧ a' ≤ 200000 ∧ wr = w.drewN m) (fun _ _ xv _ => highOf w xv)
  case atStart => exact ⟨t, a, 0, 0, rfl, rfl, h2, hs, by omega, by omega, by omega, rfl⟩
  case round =>
    obtain ⟨u, a', n', m, rfl, rfl, hu, hus, hsum, hn', ha', rfl⟩ := hrel
    cases u with
    | nil =>
      obtain rfl := hu.nil_ptr
      rw [feedsTo_nil] at hsum
      have HS := Lib.hid hsum
      clear hsum hu
      go_wp2_with fail
      go_ret2
      exact ⟨by rw [← HS.out]; rfl, _, rfl⟩
    | node l p r =>
      have hhi := highOf_nd hu
      obtain ⟨b, la, ra, qs, rfl, rfl, hb, hl, hr⟩ := hu
      have z2 : qs.data.toList.length = qs.size := by simp
      have s1 : l.size + qs.size + r.size ≤ 200000 := by rw [Tr.size_node, z2] at hus; exact hus
      have hlf := Tr.feeds_le l
      have hqf := fcnt_le qs.data.toList
      have hhl := highOf_nd hl
      have hhr := highOf_nd hr
      have hh : (Tr.node l qs.data.toList r).high = 1 + max l.high r.high := rfl
      have c0 := hb.cell 0
      have c1 := hb.cell 1
      have c2 := hb.cell 2
      simp at c0 c1 c2
      obtain ⟨pl, rfl⟩ := hl.ptr
      obtain ⟨pr, rfl⟩ := hr.ptr
      have hs0 : l.size ≤ 200000 := by omega
      have hs2 : qs.size ≤ 200000 := by omega
      have hf0 : l.feeds ≤ 200000 := by omega
      clear hb
      by_cases k1 : a' ≤ l.size
      · have d1 : decide ((a' : Int) - (l.size : Int) ≤ 0) = true := by simp; omega
        rw [feedsTo_left _ _ _ k1] at hsum
        have HS := Lib.hid hsum
        clear hsum k1
        go_wp2_with (first
          | (go_at_call 45; refine (count_any (hl.drewN _)).mono ?_; rintro e w1 ⟨rfl, n1, rfl⟩)
          | (go_at_call 36; refine (len_any (hl.drewN _)).mono ?_; rintro e w4 ⟨rfl, rfl⟩))
        exact ⟨⟨l, a', n', _, rfl, rfl, hl, hs0, HS.out, hn', ha', rfl⟩, by omega⟩
      · by_cases k2 : a' ≤ l.size + qs.size
        · obtain ⟨k, hk⟩ : ∃ k, a' = l.size + k := ⟨a' - l.size, by omega⟩
          rw [hk, feedsTo_mid _ _ _ (by omega)] at hsum
          have hsub : (a' : Int) - (l.size : Int) = (k : Int) := by omega
          have d1 : (k = 0) = False := by simp; omega
          have d2 : decide ((k : Int) ≤ (qs.size : Int)) = true := by simp; omega
          have hkI : (k : Int) ≤ (qs.size : Int) := by omega
          have hx : (qs.extract 0 k).data.toList = qs.data.toList.take k := by simp
          have hq3 : fcnt (qs.data.toList.take k) ≤ 200000 := by
            have := fcnt_le (qs.data.toList.take k)
            rw [List.length_take] at this
            omega
          obtain ⟨c, hc⟩ : ∃ c, fcnt (qs.data.toList.take k) = c := ⟨_, rfl⟩
          rw [hc] at hsum hq3
          have hc2 : ((qs.extract 0 k).data.toList.filter (· == 10)).length = c := by rw [hx]; exact hc
          have HC := Lib.hid hc2
          have hsI : (n' : Int) + (l.feeds : Int) + (c : Int) = (t.feedsTo a : Int) := by omega
          have HS := Lib.hid hsI
          have hkb : k ≤ 200000 := by omega
          have hw1 : IntKind.i64.wrap ((n' : Int) + (l.feeds : Int)) = (n' : Int) + (l.feeds : Int) := IntWalk.i64_in _ (by omega)
          have hw2 : IntKind.i64.wrap ((n' : Int) + (l.feeds : Int) + (c : Int)) = (n' : Int) + (l.feeds : Int) + (c : Int) := IntWalk.i64_in _ (by omega)
          clear hsum k1 k2 hk hx hc hc2 hsI hhi hhl hhr hh z2 hlf hqf s1 hus
          go_wp2_with (first
            | (go_at_call 45; refine (count_any (hl.drewN _)).mono ?_; rintro e w1 ⟨rfl, n1, rfl⟩)
            | (go_at_call 36; refine (len_any (hl.drewN _)).mono ?_; rintro e w4 ⟨rfl, rfl⟩)
            | (go_at_call 48; refine (scount_any _ _).mono ?_; rw [HC.out]; rintro e w5 ⟨rfl, rfl⟩))
          go_ret2
          exact ⟨by rw [← HS.out]; rfl, _, rfl⟩
        · obtain ⟨k, hk⟩ : ∃ k, a' = l.size + (qs.data.toList.length + k) := ⟨a' - l.size - qs.size, by omega⟩
          rw [hk, feedsTo_right] at hsum
          obtain ⟨c, hc⟩ : ∃ c, fcnt qs.data.toList = c := ⟨_, rfl⟩
          rw [hc] at hsum hqf
          have hc2 : (qs.data.toList.filter (· == 10)).length = c := hc
          have HC := Lib.hid hc2
          obtain ⟨j, hj⟩ : ∃ j : Nat, qs.size + k = j := ⟨_, rfl⟩
          have hsub : (a' : Int) - (l.size : Int) = (j : Int) := by omega
          have d1 : (j = 0) = False := by simp; omega
          have d2 : (j ≤ qs.size) = False := by simp; omega
          have hjk : (j : Int) - (qs.size : Int) = (k : Int) := by omega
          have hn2 : n' + (l.feeds + c) ≤ 200000 := by
            have := fcnt_le (t.bytes.take a)
            rw [List.length_take] at this
            have h3 : t.feedsTo a = fcnt (t.bytes.take a) := rfl
            omega
          have HN := Lib.hid hn2
          have HS := Lib.hid (show n' + (l.feeds + c) + r.feedsTo k = t.feedsTo a by omega)
          have hkb : k ≤ 200000 := by omega
          have hjb : j ≤ 200000 := by omega
          have hcb : c ≤ 200000 := by omega
          have HM := Lib.hid (show highOf w (.pointer pr) < highOf w (.pointer (some ⟨b, 0, none⟩)) by omega)
          have HR := Lib.hid (show r.size ≤ 200000 by omega)
          clear hsum k1 k2 hk hj hc hc2 hhi hhl hhr hh z2 hlf hqf s1 hus hn2
          go_wp2_with (first
            | (go_at_call 45; refine (count_any (hl.drewN _)).mono ?_; rintro e w1 ⟨rfl, n1, rfl⟩)
            | (go_at_call 36; refine (len_any (hl.drewN _)).mono ?_; rintro e w4 ⟨rfl, rfl⟩)
            | (go_at_call 48; refine (scount_any _ _).mono ?_; rw [HC.out]; rintro e w5 ⟨rfl, rfl⟩))
          exact ⟨⟨r, k, n' + (l.feeds + c), _, rfl, by simp, hr, HR.out, HS.out, HN.out, hkb, rfl⟩, HM.out⟩
end Go.Proofs.Ytbpokgjahlnfhaa
