/- Nodes: split. -/
import Derived.Test.YtbpokgjahlnfhaaPtk
import Derived.IntWalk
namespace Go.Proofs.Ytbpokgjahlnfhaa
open Go.RowKit

theorem Tr.size_split (t : Tr) (i : Int) : (Tr.split t i).1.size + (Tr.split t i).2.size = t.size := by
  unfold Tr.size
  rw [(Tr.bytes_split t i).1, (Tr.bytes_split t i).2]
  simp only [List.length_take, List.length_drop]
  omega
def Two (t1 t2 : Tr) (w : World) (e : Ending) (w' : World) : Prop := ∃ v1 v2 : Value, e = .returned (.tuple #[v1, v2]) ∧ Nd t1 w' v1 ∧ Nd t2 w' v2 ∧ Below w.heap.size w w'
theorem take_ext (s : ByteArray) (k : Nat) : (s.extract 0 k).data.toList = s.data.toList.take k := by
  simp
theorem drop_ext (s : ByteArray) (k : Nat) : (s.extract k s.size).data.toList = s.data.toList.drop k := by
  simp
  rw [List.take_of_length_le]
  simp
set_option maxHeartbeats 4000000 in
set_option maxRecDepth 100000 in
theorem split_any (i : Int) {t : Tr} {w : World} {v : Value} (h : Nd t w v) (hs : t.size ≤ 200000) (hc : t.count ≤ 200000) (hi : -1000000 ≤ i ∧ i ≤ 1000000) :
    Calls Try.prog 38 #[v, .int .i64 i] w (Two (Tr.split t i).1 (Tr.split t i).2 w) := by
  induction t generalizing i w v with
  | nil =>
    obtain rfl := h.nil_ptr
    clear h hs hc hi
    go_enter Try.func38, Try.ntmps38
    go_wp2
    go_ret2
    exact ⟨_, _, rfl, rfl, rfl, Below.refl _ _⟩
  | node l p r ihl ihr =>
    obtain ⟨b, la, ra, qs, rfl, rfl, hb, hl, hr⟩ := h
    have z2 : qs.data.toList.length = qs.size := by simp
    have hi1 := hi.1
    have hi2 := hi.2
    have s1 : l.size + qs.size + r.size ≤ 200000 := by rw [Tr.size_node, z2] at hs; exact hs
    have n1 : l.count + r.count + 1 ≤ 200000 := by simp only [Tr.count] at hc; exact hc
    have c0 := hb.cell 0
    have c1 := hb.cell 1
    have c2 := hb.cell 2
    have lt := hb.lt
    simp at c0 c1 c2
    obtain ⟨pl, rfl⟩ := hl.ptr
    obtain ⟨pr, rfl⟩ := hr.ptr
    clear hb hs hc hi
    unfold Tr.split
    split
    · rename_i h1
      have d1 : decide (i - (l.size : Int) ≤ 0) = true := by simpa using h1
      have hz := Tr.size_split l i
      have hn := Tr.count_split l i
      have g1 : (Tr.split l i).2.size + qs.size + r.size ≤ 300000 := by omega
      have e1 : (Tr.split l i).2.count + r.count + 1 ≤ 300000 := by omega
      have hl1 : l.size ≤ 200000 := by omega
      have HR := Lib.hid (fun (w' : World) (k1 : Nd l w' (.pointer pl)) => ihl i k1 (by omega) (by omega) ⟨hi1, hi2⟩)
      clear ihl ihr hz hn s1 n1 h1
      go_enter Try.func38, Try.ntmps38
      go_wp2_with (first
        | (go_at_call 36; refine (len_any hl).mono ?_; rintro e w' ⟨rfl, rfl⟩)
        | (go_at_call 38; refine (HR.out _ hl).mono ?_; rintro e w1 ⟨v1, v2, rfl, hn1, hn2, hb1⟩; have c1 := (hb1.cell (p := ⟨b, 1, none⟩) lt).trans c1; have c2 := (hb1.cell (p := ⟨b, 2, none⟩) lt).trans c2; have lt1 := Nat.lt_of_lt_of_le lt hb1.size; have hr1 := hr.below hb1))
      go_region_held3 (fun w' => w'.cell? ⟨b, 1, none⟩ = some (Value.pointer pr) ∧ w'.cell? ⟨b, 2, none⟩ = some (Value.string qs))
        (first | go_keep)
        (first
          | (go_at_call 40; refine (join_any qs (hn2.drewN _) (hr1.drewN _) g1 e1).mono ?_; rintro e w2 ⟨v3, rfl, hn3, hb2⟩; have c1 := (hb2.cell (p := ⟨b, 1, none⟩) lt1).trans c1; have c2 := (hb2.cell (p := ⟨b, 2, none⟩) lt1).trans c2))
      all_goals
        go_wp2_with fail
        go_ret2
        exact ⟨_, _, rfl, hn1.below ((below_drewN (Below.refl _ _) _).trans hb2), hn3, (below_drewN hb1 _).trans (hb2.mono hb1.size)⟩
    · rename_i h1
      have d1 : decide (i - (l.size : Int) ≤ 0) = false := by simpa using h1
      split
      · rename_i h2
        rw [z2] at h2 ⊢
        have d2 : decide ((qs.size : Int) ≤ i - (l.size : Int)) = true := by simpa using h2
        have hz := Tr.size_split r (i - (l.size : Int) - (qs.size : Int))
        have hn := Tr.count_split r (i - (l.size : Int) - (qs.size : Int))
        have g1 : l.size + qs.size + (Tr.split r (i - (l.size : Int) - (qs.size : Int))).1.size ≤ 300000 := by omega
        have e1 : l.count + (Tr.split r (i - (l.size : Int) - (qs.size : Int))).1.count + 1 ≤ 300000 := by omega
        have hl1 : l.size ≤ 200000 := by omega
        have hq1 : qs.size ≤ 200000 := by omega
        have HR := Lib.hid (fun (w' : World) (k1 : Nd r w' (.pointer pr)) => ihr (i - (l.size : Int) - (qs.size : Int)) k1 (by omega) (by omega) ⟨by omega, by omega⟩)
        have hw1 : IntKind.i64.wrap (i - (l.size : Int) - (qs.size : Int)) = i - (l.size : Int) - (qs.size : Int) := IntWalk.i64_in _ (by omega)
        clear ihl ihr hz hn s1 n1 h1 h2
        go_enter Try.func38, Try.ntmps38
        go_wp2_with fail
        refine (len_any hl).mono ?_
        rintro e w' ⟨rfl, rfl⟩
        go_wp2_with fail
        go_region_held3 (fun w' => w'.cell? ⟨b, 0, none⟩ = some (Value.pointer pl) ∧ w'.cell? ⟨b, 1, none⟩ = some (Value.pointer pr) ∧ w'.cell? ⟨b, 2, none⟩ = some (Value.string qs))
          (first | go_keep)
          (first
            | (go_at_call 38; refine (HR.out _ (hr.drewN _)).mono ?_; rintro e w1 ⟨v1, v2, rfl, hn1, hn2, hb1⟩; have c0 := (hb1.cell (p := ⟨b, 0, none⟩) lt).trans c0; have c1 := (hb1.cell (p := ⟨b, 1, none⟩) lt).trans c1; have c2 := (hb1.cell (p := ⟨b, 2, none⟩) lt).trans c2; have lt1 := Nat.lt_of_lt_of_le lt hb1.size; have hl2 := (hl.drewN _).below hb1))
        all_goals
          go_wp2_with fail
          go_region_held3 (fun w' => w'.cell? ⟨b, 0, none⟩ = some (Value.pointer pl) ∧ w'.cell? ⟨b, 2, none⟩ = some (Value.string qs))
            (first | go_keep)
            (first
              | (go_at_call 40; refine (join_any qs (hl2.drewN _) (hn1.drewN _) g1 e1).mono ?_; rintro e w2 ⟨v3, rfl, hn3, hb2⟩; have c0 := (hb2.cell (p := ⟨b, 0, none⟩) lt1).trans c0; have c2 := (hb2.cell (p := ⟨b, 2, none⟩) lt1).trans c2))
          all_goals
            go_wp2_with fail
            go_ret2
            exact ⟨_, _, rfl, hn3, hn2.below ((below_drewN (Below.refl _ _) _).trans hb2), (((below_drewN (Below.refl _ _) _).trans hb1).trans (below_drewN (Below.refl _ _) _ |>.mono hb1.size)).trans (hb2.mono hb1.size)⟩
      · rename_i h2
        rw [z2] at h2
        obtain ⟨k, hk⟩ : ∃ k : Nat, i - (l.size : Int) = (k : Int) := ⟨(i - (l.size : Int)).toNat, by omega⟩
        rw [hk] at h2 d1 ⊢
        rw [Int.toNat_natCast]
        have d2 : decide ((qs.size : Int) ≤ (k : Int)) = false := by simpa using h2
        have d3 : decide (qs.size ≤ k) = false := by simp; omega
        have hk0 : ¬ k = 0 := by simp at d1; omega
        have t1 := take_ext qs k
        have t2 := drop_ext qs k
        have m1 : (qs.extract 0 k).size ≤ qs.size := by simp; omega
        have m2 : (qs.extract k qs.size).size ≤ qs.size := by simp
        have g1 : l.size + (qs.extract 0 k).size + Tr.nil.size ≤ 300000 := by have : Tr.nil.size = 0 := rfl; omega
        have e1 : l.count + Tr.nil.count + 1 ≤ 300000 := by have : Tr.nil.count = 0 := rfl; omega
        have g2 : Tr.nil.size + (qs.extract k qs.size).size + r.size ≤ 300000 := by have : Tr.nil.size = 0 := rfl; omega
        have e2 : Tr.nil.count + r.count + 1 ≤ 300000 := by have : Tr.nil.count = 0 := rfl; omega
        rw [← t1, ← t2]
        have hl1 : l.size ≤ 200000 := by omega
        have hkq : k ≤ qs.size := by omega
        clear ihl ihr s1 n1 h1 h2 t1 t2 m1 m2
        go_enter Try.func38, Try.ntmps38
        go_wp2_with fail
        refine (len_any hl).mono ?_
        rintro e w' ⟨rfl, rfl⟩
        go_wp2_with fail
        go_region_held3 (fun w' => w'.cell? ⟨b, 0, none⟩ = some (Value.pointer pl) ∧ w'.cell? ⟨b, 1, none⟩ = some (Value.pointer pr) ∧ w'.cell? ⟨b, 2, none⟩ = some (Value.string qs))
          (first | go_keep)
          (first
            | (go_at_call_of 40 (Value.string (qs.extract 0 k)); refine (join_any (qs.extract 0 k) (hl.drewN _) (r := Tr.nil) rfl g1 e1).mono ?_; rintro e w1 ⟨v1, rfl, hn1, hb1⟩; have c0 := (hb1.cell (p := ⟨b, 0, none⟩) lt).trans c0; have c1 := (hb1.cell (p := ⟨b, 1, none⟩) lt).trans c1; have c2 := (hb1.cell (p := ⟨b, 2, none⟩) lt).trans c2; have lt1 := Nat.lt_of_lt_of_le lt hb1.size; have hr1 := (hr.drewN _).below hb1)
            | (go_at_call_of 40 (Value.string (qs.extract k qs.size)); refine (join_any (qs.extract k qs.size) (l := Tr.nil) rfl hr1 g2 e2).mono ?_; rintro e w2 ⟨v2, rfl, hn2, hb2⟩; have c0 := (hb2.cell (p := ⟨b, 0, none⟩) lt1).trans c0; have c1 := (hb2.cell (p := ⟨b, 1, none⟩) lt1).trans c1; have c2 := (hb2.cell (p := ⟨b, 2, none⟩) lt1).trans c2))
        all_goals
          go_wp2_with fail
          go_ret2
          exact ⟨_, _, rfl, hn1.below hb2, hn2, ((below_drewN (Below.refl _ _) _).trans hb1).trans (hb2.mono hb1.size)⟩
end Go.Proofs.Ytbpokgjahlnfhaa
