/- Nodes: balanced, where it turns (case 2 of four). -/
import Derived.Test.YtbpokgjahlnfhaaPtw
import Derived.Deep.QuietTactic
import Derived.BigQuiet
import Derived.Deep.RegionHeld3
namespace Go.Proofs.Ytbpokgjahlnfhaa
open Go.RowKit
set_option maxHeartbeats 4000000 in
set_option maxRecDepth 100000 in
theorem bal_2 (s q t : ByteArray) {a r x y : Tr} {w : World} {la rv lx ly : Value} {b bm : Nat} (ha : Nd a w la) (hx : Nd x w lx) (hy : Nd y w ly) (hbm : Blk w bm 82 #[lx, ly, .string t, .int .i64 ((Tr.node x t.data.toList y).size : Int), .int .i64 ((Tr.node x t.data.toList y).count : Int), .int .i64 ((Tr.node x t.data.toList y).high : Int), .int .i64 ((Tr.node x t.data.toList y).feeds : Int)]) (hr : Nd r w rv)
    (hb : Blk w b 82 #[la, (.pointer (some ⟨bm, 0, none⟩)), .string q, .int .i64 ((Tr.node a q.data.toList (Tr.node x t.data.toList y)).size : Int), .int .i64 ((Tr.node a q.data.toList (Tr.node x t.data.toList y)).count : Int), .int .i64 ((Tr.node a q.data.toList (Tr.node x t.data.toList y)).high : Int), .int .i64 ((Tr.node a q.data.toList (Tr.node x t.data.toList y)).feeds : Int)])
    (hs : (Tr.node a q.data.toList (Tr.node x t.data.toList y)).size + s.size + r.size ≤ 300000) (hc : (Tr.node a q.data.toList (Tr.node x t.data.toList y)).count + r.count + 1 ≤ 300000)
    (h1 : Tr.high r + 1 < Tr.high (Tr.node a q.data.toList (Tr.node x t.data.toList y))) (h2 : Tr.high a < Tr.high (Tr.node x t.data.toList y)) :
    Calls Try.prog 50 #[.pointer (some ⟨b, 0, none⟩), .string s, rv] w (Made (Tr.node (Tr.node a q.data.toList x) t.data.toList (Tr.node y s.data.toList r)) w) := by
  have hm : Nd (Tr.node x t.data.toList y) w (.pointer (some ⟨bm, 0, none⟩)) := ⟨bm, lx, ly, t, rfl, rfl, hbm, hx, hy⟩
  have hl : Nd (Tr.node a q.data.toList (Tr.node x t.data.toList y)) w (.pointer (some ⟨b, 0, none⟩)) := ⟨b, _, _, q, rfl, rfl, hb, ha, hm⟩
  have k1 := Tr.high_le (Tr.node a q.data.toList (Tr.node x t.data.toList y))
  have k2 := Tr.high_le r
  have k3 : Tr.high (Tr.node a q.data.toList (Tr.node x t.data.toList y)) ≤ 300000 := by omega
  have k4 : r.high ≤ 300000 := by omega
  have d1 : decide ((1 : Int) < ((Tr.node a q.data.toList (Tr.node x t.data.toList y)).high : Int) - (r.high : Int)) = true := by simp; omega
  have d2 : decide (((Tr.node x t.data.toList y).high : Int) ≤ (a.high : Int)) = false := by simp; omega
  have c0 := hb.cell 0
  have c1 := hb.cell 1
  have c2 := hb.cell 2
  have lt := hb.lt
  simp at c0 c1 c2
  have m0 := hbm.cell 0
  have m1 := hbm.cell 1
  have m2 := hbm.cell 2
  have ltm := hbm.lt
  simp at m0 m1 m2
  have z1 : s.data.toList.length = s.size := by simp
  have z2 : q.data.toList.length = q.size := by simp
  have z3 : t.data.toList.length = t.size := by simp
  have g0 : a.size + q.size + x.size ≤ 300000 := by simp only [Tr.size_node] at hs ⊢; omega
  have e0 : a.count + x.count + 1 ≤ 300000 := by simp only [Tr.count] at hc ⊢; omega
  have g1 : y.size + s.size + r.size ≤ 300000 := by simp only [Tr.size_node] at hs ⊢; omega
  have e1 : y.count + r.count + 1 ≤ 300000 := by simp only [Tr.count] at hc ⊢; omega
  have g2 : (Tr.node a q.data.toList x).size + t.size + (Tr.node y s.data.toList r).size ≤ 300000 := by simp only [Tr.size_node] at hs ⊢; omega
  have e2 : (Tr.node a q.data.toList x).count + (Tr.node y s.data.toList r).count + 1 ≤ 300000 := by simp only [Tr.count] at hc ⊢; omega
  obtain ⟨pa, rfl⟩ := ha.ptr
  obtain ⟨pr, rfl⟩ := hr.ptr
  obtain ⟨px, rfl⟩ := hx.ptr
  obtain ⟨py, rfl⟩ := hy.ptr
  clear hb hs hc k1 k2 z1 z2 z3 hbm
  go_enter Try.func50, Try.ntmps50
  go_wp2_with (first
    | (go_at_call_of 46 (Value.pointer (some ⟨b, 0, none⟩)); with_reducible refine (high_any hl).mono ?_; rintro e w' ⟨rfl, rfl⟩)
    | (go_at_call_of 46 (Value.pointer pr); with_reducible refine (high_any hr).mono ?_; rintro e w' ⟨rfl, rfl⟩))
  go_quiet ((first
    | (go_at_call_of 46 (Value.pointer pa); exact (high_any (ha.drewN _)).mono fun _ _ ⟨he, hw⟩ => ⟨he, _, hw.symm⟩)
    | (go_at_call_of 46 (Value.pointer (some ⟨bm, 0, none⟩)); exact (high_any (hm.drewN _)).mono fun _ _ ⟨he, hw⟩ => ⟨he, _, hw.symm⟩)))
  go_wp2_with fail
  have hB : ∀ n, Below w.heap.size w (w.drewN n) := fun n => below_drewN (Below.refl _ _) n
  go_region_held3 (fun w' => w'.cell? ⟨b, 0, none⟩ = some (Value.pointer pa) ∧ w'.cell? ⟨b, 1, none⟩ = some (Value.pointer (some ⟨bm, 0, none⟩)) ∧ w'.cell? ⟨b, 2, none⟩ = some (Value.string q) ∧ w'.cell? ⟨bm, 0, none⟩ = some (Value.pointer px) ∧ w'.cell? ⟨bm, 1, none⟩ = some (Value.pointer py) ∧ w'.cell? ⟨bm, 2, none⟩ = some (Value.string t))
    (first | go_keep)
    (first
    | (go_at_call_of 35 (Value.string q); refine (mk_any q (ha.drewN _) (hx.drewN _) g0 e0).mono ?_; rintro e w1 ⟨v1, rfl, hn1, hb1⟩; have c0 := (hb1.cell (p := ⟨b, 0, none⟩) (lt)).trans c0; have c1 := (hb1.cell (p := ⟨b, 1, none⟩) (lt)).trans c1; have c2 := (hb1.cell (p := ⟨b, 2, none⟩) (lt)).trans c2; have m0 := (hb1.cell (p := ⟨bm, 0, none⟩) (ltm)).trans m0; have m1 := (hb1.cell (p := ⟨bm, 1, none⟩) (ltm)).trans m1; have m2 := (hb1.cell (p := ⟨bm, 2, none⟩) (ltm)).trans m2; have lt1 := Nat.lt_of_lt_of_le lt hb1.size; have ltm1 := Nat.lt_of_lt_of_le ltm hb1.size)
    | (go_at_call_of 35 (Value.string s); refine (mk_any s ((hy.drewN _).below hb1) ((hr.drewN _).below hb1) g1 e1).mono ?_; rintro e w2 ⟨v2, rfl, hn2, hb2⟩; have c0 := (hb2.cell (p := ⟨b, 0, none⟩) (lt1)).trans c0; have c1 := (hb2.cell (p := ⟨b, 1, none⟩) (lt1)).trans c1; have c2 := (hb2.cell (p := ⟨b, 2, none⟩) (lt1)).trans c2; have m0 := (hb2.cell (p := ⟨bm, 0, none⟩) (ltm1)).trans m0; have m1 := (hb2.cell (p := ⟨bm, 1, none⟩) (ltm1)).trans m1; have m2 := (hb2.cell (p := ⟨bm, 2, none⟩) (ltm1)).trans m2)
    | (go_at_call_of 35 (Value.string t); refine (mk_any t (hn1.below hb2) hn2 g2 e2).mono ?_; rintro e w3 ⟨v3, rfl, hn3, hb3⟩; have lt2 := Nat.lt_of_lt_of_le lt1 hb2.size; have ltm2 := Nat.lt_of_lt_of_le ltm1 hb2.size; have c0 := (hb3.cell (p := ⟨b, 0, none⟩) (lt2)).trans c0; have c1 := (hb3.cell (p := ⟨b, 1, none⟩) (lt2)).trans c1; have c2 := (hb3.cell (p := ⟨b, 2, none⟩) (lt2)).trans c2; have m0 := (hb3.cell (p := ⟨bm, 0, none⟩) (ltm2)).trans m0; have m1 := (hb3.cell (p := ⟨bm, 1, none⟩) (ltm2)).trans m1; have m2 := (hb3.cell (p := ⟨bm, 2, none⟩) (ltm2)).trans m2))
  all_goals
    go_wp2
    go_ret
    exact ⟨_, rfl, hn3, (((hB _).trans (hb1.mono (hB _).size)).trans (hb2.mono (Nat.le_trans (hB _).size hb1.size))).trans (hb3.mono (Nat.le_trans (hB _).size (Nat.le_trans hb1.size hb2.size)))⟩
end Go.Proofs.Ytbpokgjahlnfhaa
