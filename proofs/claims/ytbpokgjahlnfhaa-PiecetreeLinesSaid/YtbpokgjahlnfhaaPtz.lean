/- visit walked. -/
import Derived.Test.YtbpokgjahlnfhaaPtt
import Derived.Test.YtbpokgjahlnfhaaPtx
import Derived.RangeFuncNested
import Derived.RangeFuncBound
import Derived.RangeFuncCalls
import Derived.RangeFuncLeaves
import Derived.Shelf.Abstract
import Derived.Shelf.RegionOpen
import Derived.OwnWalkIn
import Derived.TacticsInMore
import Derived.LoopNIn
import Derived.LoopIn
import Derived.BigRegionIn
namespace Go.Proofs.Ytbpokgjahlnfhaa
open Go.RowKit Go.Shelf
attribute [local go_sem] Oper.semAt_some

theorem yield_wide {m m' : Nat} {P : Program} {l : Nat} {args : Array Value} {W : World} {R : Ending → World → Prop} (h : YieldAt Fence.wide m P l args W R) : YieldAt Fence.wide m' P l args W R := by
  obtain ⟨fn, tmps, asg, body, h1, h2, h3⟩ := h
  exact ⟨fn, tmps, asg, body, h1, h2, fun c cs _ => h3 c cs (room_wide _)⟩
theorem extract_cut (s : ByteArray) (a b : Nat) : (s.extract a b) = ⟨((s.data.toList.take b).drop a).toArray⟩ := by
  apply bytes_ext
  simp
  rw [List.drop_take]

def VisPost (n₀ : Nat) (J Jx : List (List UInt8) → World → Prop) (pre xs : List (List UInt8)) (W : World) (e : Ending) (W' : World) : Prop :=
  (e = .returned (.bool true) ∧ J (pre ++ xs) W' ∧ Below n₀ W W') ∨ (e = .returned (.bool false) ∧ ∃ ys, Jx ys W')
set_option maxHeartbeats 2000000 in
set_option maxRecDepth 100000 in
theorem visit_in (l N : Nat) (w₀ : World) (J Jx : List (List UInt8) → World → Prop) (hJd : ∀ s W n, J s W → J s (W.drewN n))
    (hY : ∀ pre x W, J pre W → pre.length < N → YieldAt Fence.wide 0 Try.prog l #[estr x] W fun e W' =>
      (e = .returned (.bool true) ∧ J (pre ++ [x]) W' ∧ Below w₀.heap.size W W') ∨ (e = .returned (.bool false) ∧ Jx (pre ++ [x]) W'))
    (t : Tr) (m : Nat) (f to : Int) (v : Value) (pre : List (List UInt8)) (W : World) (h : Nd t w₀ v) (hW : Below w₀.heap.size w₀ W) (hJ : J pre W) (hlen : pre.length + (t.vis f to).length ≤ N)
    (hs : t.size ≤ 200000) (hf : -1000000 ≤ f ∧ f ≤ 1000000) (ht : -1000000 ≤ to ∧ to ≤ 1000000) :
    CallsIn Fence.wide m Try.prog 57 #[v, .int .i64 f, .int .i64 to, .func (.yield l) #[] #[]] W (VisPost w₀.heap.size J Jx pre (t.vis f to) W) := by
  induction t generalizing m f to v pre W with
  | nil =>
    obtain rfl := h.nil_ptr
    clear hY hJd
    refine callsIn_of_wp Try.func57 rfl trivial ?_ rfl
    simp only [Try.ntmps57, List.size_toArray, List.length_cons, List.length_nil, Nat.reduceAdd, Nat.reduceSub, Array.replicate_succ, Array.replicate_zero, List.push_toArray, List.append_toArray, List.nil_append, List.cons_append]
    gi_wp2
    go_ret
    exact .inl ⟨rfl, by rw [show Tr.vis .nil f to = [] from rfl, List.append_nil]; exact hJ, Below.refl _ _⟩
  | node a p b iha ihb =>
    obtain ⟨bk, la, ra, qs, rfl, rfl, hb, ha, hr⟩ := h
    have z2 : qs.data.toList.length = qs.size := by simp
    obtain ⟨hf1, hf2⟩ := hf
    obtain ⟨ht1, ht2⟩ := ht
    have s1 : a.size + qs.size + b.size ≤ 200000 := by rw [Tr.size_node, z2] at hs; exact hs
    have c0 := (hW.cell (p := ⟨bk, 0, none⟩) hb.lt).trans (hb.cell 0)
    have c1 := (hW.cell (p := ⟨bk, 1, none⟩) hb.lt).trans (hb.cell 1)
    have c2 := (hW.cell (p := ⟨bk, 2, none⟩) hb.lt).trans (hb.cell 2)
    have c3 := (hW.cell (p := ⟨bk, 3, none⟩) hb.lt).trans (hb.cell 3)
    have lt := hb.lt
    simp at c0 c1 c2 c3
    obtain ⟨pl, rfl⟩ := ha.ptr
    obtain ⟨pr, rfl⟩ := hr.ptr
    clear hb hs
    have hvis : Tr.vis (.node a qs.data.toList b) f to = Tr.vis (.node a qs.data.toList b) f to := rfl
    conv at hvis => rhs; unfold Tr.vis
    rw [z2] at hvis
    by_cases k1 : to ≤ f
    · have d1 : decide (to ≤ f) = true := by simpa using k1
      rw [if_pos (.inl k1)] at hvis
      rw [hvis]
      clear hY hJd iha ihb hvis hlen
      refine callsIn_of_wp Try.func57 rfl trivial ?_ rfl
      simp only [Try.ntmps57, List.size_toArray, List.length_cons, List.length_nil, Nat.reduceAdd, Nat.reduceSub, Array.replicate_succ, Array.replicate_zero, List.push_toArray, List.append_toArray, List.nil_append, List.cons_append]
      gi_wp2
      go_ret
      exact .inl ⟨rfl, by rw [List.append_nil]; exact hJ, Below.refl _ _⟩
    · have d1 : decide (to ≤ f) = false := by simpa using k1
      by_cases k2 : to ≤ 0
      · have d2 : decide (to ≤ 0) = true := by simpa using k2
        rw [if_pos (.inr (.inl k2))] at hvis
        rw [hvis]
        clear hY hJd iha ihb hvis hlen
        refine callsIn_of_wp Try.func57 rfl trivial ?_ rfl
        simp only [Try.ntmps57, List.size_toArray, List.length_cons, List.length_nil, Nat.reduceAdd, Nat.reduceSub, Array.replicate_succ, Array.replicate_zero, List.push_toArray, List.append_toArray, List.nil_append, List.cons_append]
        gi_wp2
        go_ret
        exact .inl ⟨rfl, by rw [List.append_nil]; exact hJ, Below.refl _ _⟩
      · have d2 : decide (to ≤ 0) = false := by simpa using k2
        by_cases k3 : ((Tr.node a qs.data.toList b).size : Int) ≤ f
        · have d3 : decide (((Tr.node a qs.data.toList b).size : Int) ≤ f) = true := by simpa using k3
          rw [if_pos (.inr (.inr k3))] at hvis
          rw [hvis]
          clear hY hJd iha ihb hvis hlen
          refine callsIn_of_wp Try.func57 rfl trivial ?_ rfl
          simp only [Try.ntmps57, List.size_toArray, List.length_cons, List.length_nil, Nat.reduceAdd, Nat.reduceSub, Array.replicate_succ, Array.replicate_zero, List.push_toArray, List.append_toArray, List.nil_append, List.cons_append]
          gi_wp2
          go_ret
          exact .inl ⟨rfl, by rw [List.append_nil]; exact hJ, Below.refl _ _⟩
        · have d3 : decide (((Tr.node a qs.data.toList b).size : Int) ≤ f) = false := by simpa using k3
          rw [if_neg (by omega)] at hvis
          have haW : Nd a W (.pointer pl) := ha.turn (F := []) (Turn.ofBelow hW (Nat.le_refl _)) (fun _ hi => by cases hi)
          have hdep : Fence.wide.depth.isSome = false := rfl
          have IA := iha (m - 1) f (min to (a.size : Int)) _ pre W ha hW hJ (by
            rw [hvis, List.length_append] at hlen
            omega) (by omega) ⟨by omega, by omega⟩ ⟨by omega, by omega⟩
          have IB := fun (W' : World) (pre' : List (List UInt8)) (hW' : Below w₀.heap.size w₀ W') (hJ' : J pre' W') (hl : pre'.length + (Tr.vis b (max (f - ((a.size : Int) + (qs.size : Int))) 0) (to - ((a.size : Int) + (qs.size : Int)))).length ≤ N) =>
            ihb (m - 1) (max (f - ((a.size : Int) + (qs.size : Int))) 0) (to - ((a.size : Int) + (qs.size : Int))) _ pre' W' hr hW' hJ' hl (by omega) ⟨by omega, by omega⟩ ⟨by omega, by omega⟩
          obtain ⟨X, hX⟩ : ∃ X, Tr.vis a f (min to (a.size : Int)) = X := ⟨_, rfl⟩
          obtain ⟨Z, hZ⟩ : ∃ Z, Tr.vis b (max (f - ((a.size : Int) + (qs.size : Int))) 0) (to - ((a.size : Int) + (qs.size : Int))) = Z := ⟨_, rfl⟩
          rw [hX] at IA hvis
          rw [hZ] at IB hvis
          have hw1 : IntKind.i64.wrap (f - (a.size : Int)) = f - (a.size : Int) := IntWalk.i64_in _ (by omega)
          have hw2 : IntKind.i64.wrap (to - (a.size : Int)) = to - (a.size : Int) := IntWalk.i64_in _ (by omega)
          have hw3 : IntKind.i64.wrap (f - ((a.size : Int) + (qs.size : Int))) = f - ((a.size : Int) + (qs.size : Int)) := IntWalk.i64_in _ (by omega)
          have hw4 : IntKind.i64.wrap (to - ((a.size : Int) + (qs.size : Int))) = to - ((a.size : Int) + (qs.size : Int)) := IntWalk.i64_in _ (by omega)
          have hn1 : a.size ≤ 200000 := by omega
          have hn2 : qs.size ≤ 200000 := by omega
          clear iha ihb hX hZ
          by_cases k4 : max (f - (a.size : Int)) 0 < min (to - (a.size : Int)) (qs.size : Int)
          · rw [if_pos k4] at hvis
            obtain ⟨x0, hx0⟩ : ∃ x0 : Nat, max (f - (a.size : Int)) 0 = (x0 : Int) := ⟨(max (f - (a.size : Int)) 0).toNat, by omega⟩
            obtain ⟨y0, hy0⟩ : ∃ y0 : Nat, min (to - (a.size : Int)) (qs.size : Int) = (y0 : Int) := ⟨(min (to - (a.size : Int)) (qs.size : Int)).toNat, by omega⟩
            rw [hx0, hy0] at k4 hvis
            rw [Int.toNat_natCast, Int.toNat_natCast] at hvis
            rw [hvis] at hlen ⊢
            have hxy : x0 < y0 := by omega
            have hyq : y0 ≤ qs.size := by omega
            have d4 : decide ((x0 : Int) < (y0 : Int)) = true := by simpa using hxy
            have HL := Lib.hid hlen
            clear hlen hvis k1 k2 k3
            have HY := Lib.hid hY
            have HJd := Lib.hid hJd
            have HA := Lib.hid IA
            have HB := Lib.hid IB
            clear hY hJd IA IB
            refine callsIn_of_wp Try.func57 rfl trivial ?_ rfl
            simp only [Try.ntmps57, List.size_toArray, List.length_cons, List.length_nil, Nat.reduceAdd, Nat.reduceSub, Array.replicate_succ, Array.replicate_zero, List.push_toArray, List.append_toArray, List.nil_append, List.cons_append]
            gi_wp2_with ((refine ⟨trivial, ?_⟩; gi_at_call 36; refine (callsIn_wide.2 (len_any haW)).mono ?_; rintro e w1 ⟨rfl, rfl⟩))
            refine ⟨trivial, ?_⟩
            refine HA.out.mono ?_
            rintro e w1 (⟨rfl, hJ1, hb1⟩ | ⟨rfl, ys, hx⟩)
            · have c1 := (hb1.cell (p := ⟨bk, 1, none⟩) lt).trans c1
              have c2 := (hb1.cell (p := ⟨bk, 2, none⟩) lt).trans c2
              gi_wp2
              gi_region
              have hlt : (pre ++ X).length < N := by
                have := HL.out
                simp only [List.length_append, List.length_cons] at this ⊢
                omega
              obtain ⟨fn, tmps, assign, body, hy, hR⟩ := yield_wide (m' := m - 1) (HY.out (pre ++ X) ((qs.data.toList.take y0).drop x0) w1.drew (HJd.out _ _ 1 hJ1) hlt)
              rw [show estr ((qs.data.toList.take y0).drop x0) = .string (qs.extract x0 y0) from by unfold estr; rw [← extract_cut]] at hy
              gi_wp2
              refine hR.mono ?_
              rintro e w3 (⟨rfl, hJ3, hk3⟩ | ⟨rfl, hJx3⟩)
              · have hb3 : Below w₀.heap.size w1 w3 := ⟨hk3.os, hk3.tape, hk3.output, hk3.size, hk3.block⟩
                have c1 := (hb3.cell (p := ⟨bk, 1, none⟩) lt).trans c1
                have c2 := (hb3.cell (p := ⟨bk, 2, none⟩) lt).trans c2
                clear hy hR
                gi_wp2
                refine ⟨trivial, ?_⟩
                refine (HB.out w3 _ (hW.trans (hb1.trans hb3)) hJ3 (by
                  have := HL.out
                  simp only [List.length_append, List.length_cons, List.length_nil] at this ⊢
                  omega)).mono ?_
                rintro e w4 (⟨rfl, hJ4, hb4⟩ | ⟨rfl, ys, hx⟩)
                · gi_wp2
                  go_ret
                  exact .inl ⟨rfl, by simpa [List.append_assoc] using hJ4, ((hb1.trans hb3)).trans hb4⟩
                · gi_wp2
                  go_ret
                  exact .inr ⟨rfl, ys, hx⟩
              · clear hy hR
                gi_wp2
                go_ret
                exact .inr ⟨rfl, _, hJx3⟩
            · gi_wp2
              go_ret
              exact .inr ⟨rfl, ys, hx⟩
          · rw [if_neg k4] at hvis
            obtain ⟨x0, hx0⟩ : ∃ x0 : Int, max (f - (a.size : Int)) 0 = x0 := ⟨_, rfl⟩
            obtain ⟨y0, hy0⟩ : ∃ y0 : Int, min (to - (a.size : Int)) (qs.size : Int) = y0 := ⟨_, rfl⟩
            rw [hx0, hy0] at k4
            rw [hvis] at hlen ⊢
            have d4 : decide (x0 < y0) = false := by simpa using k4
            have HL := Lib.hid hlen
            clear hlen hvis k1 k2 k3 hY
            have HJd := Lib.hid hJd
            have HA := Lib.hid IA
            have HB := Lib.hid IB
            clear hJd IA IB
            refine callsIn_of_wp Try.func57 rfl trivial ?_ rfl
            simp only [Try.ntmps57, List.size_toArray, List.length_cons, List.length_nil, Nat.reduceAdd, Nat.reduceSub, Array.replicate_succ, Array.replicate_zero, List.push_toArray, List.append_toArray, List.nil_append, List.cons_append]
            gi_wp2_with ((refine ⟨trivial, ?_⟩; gi_at_call 36; refine (callsIn_wide.2 (len_any haW)).mono ?_; rintro e w1 ⟨rfl, rfl⟩))
            refine ⟨trivial, ?_⟩
            refine HA.out.mono ?_
            rintro e w1 (⟨rfl, hJ1, hb1⟩ | ⟨rfl, ys, hx⟩)
            · have c1 := (hb1.cell (p := ⟨bk, 1, none⟩) lt).trans c1
              have c2 := (hb1.cell (p := ⟨bk, 2, none⟩) lt).trans c2
              have hJ1 := HJd.out _ _ 1 hJ1
              have hb1 : Below w₀.heap.size W w1.drew := ⟨hb1.os, hb1.tape, hb1.output, hb1.size, hb1.block⟩
              gi_wp2
              gi_region
              gi_wp2
              refine ⟨(fun f hf => by cases hf), ?_⟩
              gi_wp2
              refine ⟨trivial, ?_⟩
              refine (HB.out w1.drew _ (hW.trans hb1) hJ1 (by
                have := HL.out
                simp only [List.length_append, List.length_nil] at this ⊢
                omega)).mono ?_
              rintro e w4 (⟨rfl, hJ4, hb4⟩ | ⟨rfl, ys, hx⟩)
              · gi_wp2
                go_ret
                exact .inl ⟨rfl, by simpa [List.append_assoc] using hJ4, (hb1).trans hb4⟩
              · gi_wp2
                go_ret
                exact .inr ⟨rfl, ys, hx⟩
            · gi_wp2
              go_ret
              exact .inr ⟨rfl, ys, hx⟩
end Go.Proofs.Ytbpokgjahlnfhaa
