/- Nodes: balanced, join, last, concat. -/
import Derived.Test.YtbpokgjahlnfhaaPtb1
import Derived.Test.YtbpokgjahlnfhaaPtb2
import Derived.Test.YtbpokgjahlnfhaaPtb3
import Derived.Test.YtbpokgjahlnfhaaPtb4
namespace Go.Proofs.Ytbpokgjahlnfhaa
open Go.RowKit

theorem bytes_eta (s : ByteArray) : (⟨s.data.toList.toArray⟩ : ByteArray) = s := bytes_ext (by simp)
set_option maxHeartbeats 1000000 in
theorem bal_0 (s : ByteArray) {l r : Tr} {w : World} {lv rv : Value} (hl : Nd l w lv) (hr : Nd r w rv)
    (hs : l.size + s.size + r.size ≤ 300000) (hc : l.count + r.count + 1 ≤ 300000) (h1 : Tr.high l ≤ Tr.high r + 1) (h2 : Tr.high r ≤ Tr.high l + 1) :
    Calls Try.prog 50 #[lv, .string s, rv] w (Made (.node l s.data.toList r) w) := by
  have k1 := Tr.high_le l
  have k2 := Tr.high_le r
  have k3 : Tr.high l ≤ 300000 := by omega
  have k4 : Tr.high r ≤ 300000 := by omega
  have d1 : decide ((1 : Int) < (l.high : Int) - (r.high : Int)) = false := by simp; omega
  have d3 : decide ((l.high : Int) - (r.high : Int) < (-1 : Int)) = false := by simp; omega
  obtain ⟨pl, rfl⟩ := hl.ptr
  obtain ⟨pr, rfl⟩ := hr.ptr
  have hB : ∀ n, Below w.heap.size w (w.drewN n) := fun n => below_drewN (Below.refl _ _) n
  clear k1 k2
  go_enter Try.func50, Try.ntmps50
  go_wp2_with (first
    | (go_at_call_of 46 (Value.pointer pl); with_reducible refine (high_any hl).mono ?_; rintro e w' ⟨rfl, rfl⟩)
    | (go_at_call_of 46 (Value.pointer pr); with_reducible refine (high_any hr).mono ?_; rintro e w' ⟨rfl, rfl⟩))
  go_quiet (fail)
  go_wp2_with fail
  go_quiet (fail)
  go_wp2_with (go_at_call 35; refine (mk_any s (hl.drewN _) (hr.drewN _) hs hc).mono ?_; rintro e w1 ⟨v1, rfl, hn1, hb1⟩)
  go_ret
  exact ⟨_, rfl, hn1, (hB _).trans (hb1.mono (hB _).size)⟩

theorem bal_any (s : ByteArray) {l r : Tr} {w : World} {lv rv : Value} (hl : Nd l w lv) (hr : Nd r w rv)
    (hs : l.size + s.size + r.size ≤ 300000) (hc : l.count + r.count + 1 ≤ 300000) :
    Calls Try.prog 50 #[lv, .string s, rv] w (Made (Tr.bal l s.data.toList r) w) := by
  unfold Tr.bal
  split
  · rename_i h1
    split
    · simp [Tr.high] at h1
    · rename_i a q m
      obtain ⟨b, la, lm, qs, rfl, rfl, hb, ha, hm⟩ := hl
      split
      · rename_i h2
        exact bal_1 s qs ha hm hr hb hs hc h1 h2
      · rename_i h2
        split
        · simp [Tr.high] at h2
        · rename_i x t y
          obtain ⟨bm, lx, ly, ts, rfl, rfl, hbm, hx, hy⟩ := hm
          exact bal_2 s qs ts ha hx hy hbm hr hb hs hc h1 (by omega)
  · rename_i h0
    split
    · rename_i h1
      split
      · simp [Tr.high] at h1
      · rename_i m q a
        obtain ⟨b, lm, la, qs, rfl, rfl, hb, hm, ha⟩ := hr
        split
        · rename_i h2
          exact bal_3 s qs ha hm hl hb (by omega) (by omega) h1 h2
        · rename_i h2
          split
          · simp [Tr.high] at h2
          · rename_i x t y
            obtain ⟨bm, lx, ly, ts, rfl, rfl, hbm, hx, hy⟩ := hm
            exact bal_4 s qs ts ha hx hy hbm hl hb (by omega) (by omega) h1 (by omega)
    · rename_i h1
      exact bal_0 s hl hr hs hc (by omega) (by omega)

theorem Tr.size_join (l : Tr) (p : List UInt8) (r : Tr) : (Tr.join l p r).size = l.size + p.length + r.size := by
  unfold Tr.size
  rw [Tr.bytes_join]
  simp only [List.length_append]
set_option maxHeartbeats 4000000 in
set_option maxRecDepth 100000 in
theorem join_any (s : ByteArray) {l r : Tr} {w : World} {lv rv : Value} (hl : Nd l w lv) (hr : Nd r w rv)
    (hs : l.size + s.size + r.size ≤ 300000) (hc : l.count + r.count + 1 ≤ 300000) :
    Calls Try.prog 40 #[lv, .string s, rv] w (Made (Tr.join l s.data.toList r) w) := by
  induction h : l.count + r.count using Nat.strongRecOn generalizing l r w lv rv with
  | ind n ih =>
    have k1 := Tr.high_le l
    have k2 := Tr.high_le r
    have k3 : Tr.high l ≤ 300000 := by omega
    have k4 : Tr.high r ≤ 300000 := by omega
    have z1 : s.data.toList.length = s.size := by simp
    clear k1 k2
    unfold Tr.join
    split
    · rename_i h1
      have d1 : decide ((r.high : Int) + 1 < (l.high : Int)) = true := by simp; omega
      cases l with
      | nil => simp [Tr.high] at h1
      | node a q m =>
        have hl0 := hl
        obtain ⟨b, la, lm, qs, rfl, rfl, hb, ha, hm⟩ := hl
        have z2 : qs.data.toList.length = qs.size := by simp
        have g0 : m.size + s.size + r.size ≤ 300000 := by simp only [Tr.size_node] at hs; omega
        have e0 : m.count + r.count + 1 ≤ 300000 := by simp only [Tr.count] at hc; omega
        have g1 : a.size + qs.size + (Tr.join m s.data.toList r).size ≤ 300000 := by rw [Tr.size_join]; simp only [Tr.size_node] at hs; omega
        have e1 : a.count + (Tr.join m s.data.toList r).count + 1 ≤ 300000 := by rw [Tr.count_join]; simp only [Tr.count] at hc; omega
        have hrec := fun (w : World) (lv rv : Value) (k1 : Nd m w lv) (k2 : Nd r w rv) => ih (m.count + r.count) (by simp only [Tr.count] at h; omega) (w := w) (lv := lv) (rv := rv) k1 k2 g0 e0 rfl
        have c0 := hb.cell 0
        have c1 := hb.cell 1
        have c2 := hb.cell 2
        have lt := hb.lt
        simp at c0 c1 c2
        obtain ⟨pa, rfl⟩ := ha.ptr
        obtain ⟨pm, rfl⟩ := hm.ptr
        obtain ⟨pr, rfl⟩ := hr.ptr
        have HR := Lib.hid hrec
        have hB : ∀ n, Below w.heap.size w (w.drewN n) := fun n => below_drewN (Below.refl _ _) n
        clear hb hs hc z1 z2 ih h hrec
        go_enter Try.func40, Try.ntmps40
        go_wp2_with (first
          | (go_at_call_of 46 (Value.pointer (some ⟨b, 0, none⟩)); with_reducible refine (high_any hl0).mono ?_; rintro e w' ⟨rfl, rfl⟩)
          | (go_at_call_of 46 (Value.pointer pr); with_reducible refine (high_any hr).mono ?_; rintro e w' ⟨rfl, rfl⟩))
        go_region_held3 (fun w' => w'.cell? ⟨b, 0, none⟩ = some (Value.pointer pa) ∧ w'.cell? ⟨b, 1, none⟩ = some (Value.pointer pm) ∧ w'.cell? ⟨b, 2, none⟩ = some (Value.string qs))
          (first | go_keep)
          (first
            | (go_at_call 40; refine (HR.out _ _ _ (hm.drewN _) (hr.drewN _)).mono ?_; rintro e w1 ⟨v1, rfl, hn1, hb1⟩; have c0 := (hb1.cell (p := ⟨b, 0, none⟩) lt).trans c0; have c1 := (hb1.cell (p := ⟨b, 1, none⟩) lt).trans c1; have c2 := (hb1.cell (p := ⟨b, 2, none⟩) lt).trans c2; have lt1 := Nat.lt_of_lt_of_le lt hb1.size)
            | (go_at_call 50; refine (bal_any qs ((ha.drewN _).below hb1) hn1 g1 e1).mono ?_; rintro e w2 ⟨v2, rfl, hn2, hb2⟩; have c0 := (hb2.cell (p := ⟨b, 0, none⟩) lt1).trans c0; have c1 := (hb2.cell (p := ⟨b, 1, none⟩) lt1).trans c1; have c2 := (hb2.cell (p := ⟨b, 2, none⟩) lt1).trans c2))
        all_goals
          go_wp2
          go_ret
          exact ⟨_, rfl, hn2, ((hB _).trans (hb1.mono (hB _).size)).trans (hb2.mono (Nat.le_trans (hB _).size hb1.size))⟩
    · rename_i h1
      have d1 : decide ((r.high : Int) + 1 < (l.high : Int)) = false := by simp; omega
      split
      · rename_i h2
        have d2 : decide ((l.high : Int) + 1 < (r.high : Int)) = true := by simp; omega
        cases r with
        | nil => simp [Tr.high] at h2
        | node m q a =>
          have hr0 := hr
          obtain ⟨b, lm, la, qs, rfl, rfl, hb, hm, ha⟩ := hr
          have z2 : qs.data.toList.length = qs.size := by simp
          have g0 : l.size + s.size + m.size ≤ 300000 := by simp only [Tr.size_node] at hs; omega
          have e0 : l.count + m.count + 1 ≤ 300000 := by simp only [Tr.count] at hc; omega
          have g1 : (Tr.join l s.data.toList m).size + qs.size + a.size ≤ 300000 := by rw [Tr.size_join]; simp only [Tr.size_node] at hs; omega
          have e1 : (Tr.join l s.data.toList m).count + a.count + 1 ≤ 300000 := by rw [Tr.count_join]; simp only [Tr.count] at hc; omega
          have hrec := fun (w : World) (lv rv : Value) (k1 : Nd l w lv) (k2 : Nd m w rv) => ih (l.count + m.count) (by simp only [Tr.count] at h; omega) (w := w) (lv := lv) (rv := rv) k1 k2 g0 e0 rfl
          have c0 := hb.cell 0
          have c1 := hb.cell 1
          have c2 := hb.cell 2
          have lt := hb.lt
          simp at c0 c1 c2
          obtain ⟨pa, rfl⟩ := ha.ptr
          obtain ⟨pm, rfl⟩ := hm.ptr
          obtain ⟨pl, rfl⟩ := hl.ptr
          have HR := Lib.hid hrec
          have hB : ∀ n, Below w.heap.size w (w.drewN n) := fun n => below_drewN (Below.refl _ _) n
          clear hb hs hc z1 z2 ih h hrec
          go_enter Try.func40, Try.ntmps40
          go_wp2_with (first
            | (go_at_call_of 46 (Value.pointer (some ⟨b, 0, none⟩)); with_reducible refine (high_any hr0).mono ?_; rintro e w' ⟨rfl, rfl⟩)
            | (go_at_call_of 46 (Value.pointer pl); with_reducible refine (high_any hl).mono ?_; rintro e w' ⟨rfl, rfl⟩))
          go_region_held3 (fun w' => w'.cell? ⟨b, 0, none⟩ = some (Value.pointer pm) ∧ w'.cell? ⟨b, 1, none⟩ = some (Value.pointer pa) ∧ w'.cell? ⟨b, 2, none⟩ = some (Value.string qs))
            (first | go_keep)
            (first
              | (go_at_call 40; refine (HR.out _ _ _ (hl.drewN _) (hm.drewN _)).mono ?_; rintro e w1 ⟨v1, rfl, hn1, hb1⟩; have c0 := (hb1.cell (p := ⟨b, 0, none⟩) lt).trans c0; have c1 := (hb1.cell (p := ⟨b, 1, none⟩) lt).trans c1; have c2 := (hb1.cell (p := ⟨b, 2, none⟩) lt).trans c2; have lt1 := Nat.lt_of_lt_of_le lt hb1.size)
              | (go_at_call 50; refine (bal_any qs hn1 ((ha.drewN _).below hb1) g1 e1).mono ?_; rintro e w2 ⟨v2, rfl, hn2, hb2⟩; have c0 := (hb2.cell (p := ⟨b, 0, none⟩) lt1).trans c0; have c1 := (hb2.cell (p := ⟨b, 1, none⟩) lt1).trans c1; have c2 := (hb2.cell (p := ⟨b, 2, none⟩) lt1).trans c2))
          all_goals
            go_wp2
            go_ret
            exact ⟨_, rfl, hn2, ((hB _).trans (hb1.mono (hB _).size)).trans (hb2.mono (Nat.le_trans (hB _).size hb1.size))⟩
      · rename_i h2
        have d2 : decide ((l.high : Int) + 1 < (r.high : Int)) = false := by simp; omega
        obtain ⟨pl, rfl⟩ := hl.ptr
        obtain ⟨pr, rfl⟩ := hr.ptr
        clear ih h
        go_enter Try.func40, Try.ntmps40
        go_wp2_with (first
            | (go_at_call_of 46 (Value.pointer pl); with_reducible refine (high_any hl).mono ?_; rintro e w' ⟨rfl, rfl⟩)
            | (go_at_call_of 46 (Value.pointer pr); with_reducible refine (high_any hr).mono ?_; rintro e w' ⟨rfl, rfl⟩)
            | (go_at_call 35; refine (mk_any s hl hr hs hc).mono ?_; rintro e w1 ⟨v1, rfl, hn1, hb1⟩))
        go_ret
        exact ⟨_, rfl, hn1, hb1⟩
end Go.Proofs.Ytbpokgjahlnfhaa
