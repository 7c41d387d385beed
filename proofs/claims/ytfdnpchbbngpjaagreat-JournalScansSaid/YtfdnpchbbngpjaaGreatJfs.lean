/- frames as a sequence; a region of a round's body by the plain laws. -/
import Derived.Test.YtfdnpchbbngpjaaGreatJfr
import Derived.Test.YtfdnpchbbngpjaaGreatJfp
namespace Go.Proofs.YtfdnpchbbngpjaaGreat
open Go.RowKit Go.Maps Go.Shelf

theorem op_round {l n : Nat} {P : Program} {o : Oper} {a : Act} {w : World} {K : Act → World → Prop} {Q : Exit → Act → World → Prop} (h : ∀ c, o.op ≠ .defer c) (hw : o.wp P a w K Q) :
    o.wpIn (Fence.wide.inRound l) n P a w K Q := by
  refine ⟨fun f _ => trivial, ?_⟩
  rw [Oper.semAt_eq _ _ _ h]
  unfold Oper.wp at hw
  have hd : (Fence.wide.inRound l).depth.isSome = true → 1 ≤ n := fun h => by cases h
  generalize (execOp a.eval o).run P w = r at *
  cases r with
  | ok x w' =>
    cases x <;> simp only [Oper.upon, Oper.uponIn] at hw ⊢ <;>
      first
        | exact hw
        | exact ⟨hd, CallsIn.inRound l (callsIn_wide.2 hw)⟩
        | exact ⟨hd, fun c cs _ => let ⟨v, w', r, s⟩ := hw c cs; ⟨v, w', r, stepsIn_wide.2 s⟩⟩
  | halt x w' => cases x <;> simp only [Oper.upon, Oper.uponIn] at hw ⊢ <;> exact hw
theorem any_round {l n : Nat} {P : Program} {md : Region.Mode} {ops : Array Oper} {Q : Exit → Act → World → Prop} (ho : ∀ (i : Nat) (o : Oper), ops[i]? = some o → ∀ c, o.op ≠ .defer c) (hL : ¬ LetsOut Q) :
    ∀ (fuel : Nat) (listed : Array Bool) (a : Act) (w : World), wpAny P md ops Q fuel listed a w → wpAnyIn (Fence.wide.inRound l) n P md ops Q fuel listed a w := by
  intro fuel
  induction fuel with
  | zero => intro listed a w h; exact h
  | succ fuel ih =>
    intro listed a w h
    refine ⟨h.1, fun i hi => ?_⟩
    have h1 := h.2 i hi
    unfold wpOp at h1
    unfold wpOpIn
    split
    · rename_i hn
      simp only [hn] at h1
      exact ih _ _ _ h1
    · rename_i o hn
      simp only [hn] at h1
      split
      · rename_i hw
        simp only [hw, if_true] at h1
        rcases h1 with h1 | h1
        · exact Oper.wpIn_mono (fun a w => ih _ a w) (op_round (ho i o hn) h1)
        · exact absurd h1.2 hL
      · rename_i hw
        simp only [hw] at h1
        exact ⟨fun f _ => trivial, ih _ _ _ h1⟩
def noDefer (o : Oper) : Bool := match o.op with | .defer _ => false | _ => true
theorem startR {l n id k : Nat} {P : Program} {opsL : List Oper} {Q : Exit → Act → World → Prop} {S : World → Prop} {a : Act} {w : World} (hk : opsL.length = k) (hm : P.follows .mixedOrders = true) (hd : opsL.all noDefer = true) (hL : ¬ LetsOut Q) (hS : S w.drew)
    (h : S w.drew → wpAnyH P .any opsL.toArray Q S k (List.replicate k false).toArray a w.drew) : (Code.region id opsL.toArray true).wpIn (Fence.wide.inRound l) n P Q a w := by
  subst hk
  refine wpIn_region_any hm (any_round (fun i o ho c hc => ?_) hL _ _ _ _ (wpAny_of_held _ _ _ _ (by simpa using h hS)))
  have hmem : o ∈ opsL := by
    rw [List.getElem?_toArray] at ho
    exact List.mem_of_getElem? ho
  have := List.all_eq_true.1 hd o hmem
  unfold noDefer at this
  rw [hc] at this
  exact Bool.noConfusion this

abbrev RcK := {x : Rc // OkR x}
theorem frames_in (n : Nat) (va ta : Option Addr) (h0 h1 h2 h3 : Int) (w : World) :
    CallsIn Fence.wide n Tryz.prog 63 #[.pointer va, .pointer ta, .agg #[.int .i64 h0, .int .i64 h1, .int .i64 h2, .int .i64 h3]] w fun e w' => e = .returned (.func (.func 81) #[] #[.pointer (some ⟨w.heap.size + 1 + 1, 0, none⟩), .pointer (some ⟨w.heap.size, 0, none⟩), .pointer (some ⟨w.heap.size + 1, 0, none⟩)]) ∧
      w' = ((w.alloc (.cells #[.pointer va] 24)).alloc (.cells #[.pointer ta] 83)).alloc (.cells #[.int .i64 h0, .int .i64 h1, .int .i64 h2, .int .i64 h3] 85) := by
  refine callsIn_of_wp Tryz.func63 rfl trivial ?_ rfl
  simp only [Tryz.ntmps63, List.size_toArray, List.length_cons, List.length_nil, Nat.reduceAdd, Nat.reduceSub, Array.replicate_succ, Array.replicate_zero, List.push_toArray, List.append_toArray, List.nil_append, List.cons_append]
  gi_wp2
  go_ret
  exact ⟨rfl, rfl⟩
theorem frames_stops (n : Nat) (hn : 1 ≤ n) (hB vB tB vb tb : Nat) (H : Hd) (hsm : H.small) {st : VS} {F : List Nat} (hd : st.down = false) {m : Nat} (hl : st.dur.length = m + 2) (hm : 1 ≤ m) (w : World) (hH : Held w hB vB tB vb tb H st F) :
    SeqStopsK Fence.wide n Tryz.prog 81 #[.pointer (some ⟨hB, 0, none⟩), .pointer (some ⟨vB, 0, none⟩), .pointer (some ⟨tB, 0, none⟩)] (fun x : RcK => encR x.1) (KeepX (holdX hB vB tB tb F)) (fun ys => ys.map (·.1) = fr st.area H.en H.beg H.first) (fun _ => True) (fr st.area H.en H.beg H.first).length w := fun l J Jx W hW hJ hJx hY h0 => by
  refine (frames1_in n hn l hB vB tB vb tb H hsm hd hl hm (fun pre W => ∃ ys : List RcK, ys.map (·.1) = pre ∧ J ys W) (fun pre W => ∃ ys : List RcK, ys.map (·.1) = pre ∧ Jx ys W) W ?_ ?_ (hH.below hW) ⟨[], rfl, h0⟩).mono ?_
  · rintro s A B row ⟨ys, e, hj⟩ hg hr
    exact ⟨ys, e, hJ ys A B row hj hg hr⟩
  · rintro pre x W1 ⟨ys, rfl, hj⟩ hlen hx
    refine YieldAt.mono (hY ys ⟨x, hx⟩ W1 hj (by simpa using hlen)) ?_
    rintro e W' (⟨h1, h2, h3⟩ | ⟨h1, h2⟩)
    · exact .inl ⟨h1, ⟨_, by simp, h2⟩, h3⟩
    · exact .inr ⟨h1, _, by simp, h2⟩
  · rintro e W' ⟨hv, ⟨ys, h1, zs, h2, h3⟩ | ⟨pre, _, zs, h2, h3⟩⟩
    · exact ⟨hv, .inl ⟨zs, h2.trans h1, h3⟩⟩
    · exact ⟨hv, .inr ⟨zs, trivial, h3⟩⟩
end Go.Proofs.YtfdnpchbbngpjaaGreat
