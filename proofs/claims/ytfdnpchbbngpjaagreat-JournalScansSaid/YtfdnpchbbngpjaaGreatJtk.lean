/- Regions that draw, walked operation by operation over a frame that stays written out. -/
import Derived.Test.YtfdnpchbbngpjaaGreatJnv
import Derived.OrdersIn
import Derived.RegionIn
import Derived.OrdersHeld
import Derived.Deep.RegionHeld3
namespace Go.Proofs.YtfdnpchbbngpjaaGreat

def nthL {α : Type} : List α → Nat → Option α
  | [], _ => none
  | x :: _, 0 => some x
  | _ :: xs, n + 1 => nthL xs n
theorem nthL_get {α : Type} {l : List α} {i : Nat} {x : α} (h : nthL l i = some x) : l.toArray[i]? = some x := by
  rw [List.getElem?_toArray]
  induction l generalizing i with
  | nil => cases h
  | cons y ys ih =>
    cases i with
    | zero => simpa [nthL] using h
    | succ i => simpa using ih (by simpa [nthL] using h)
theorem put_lit (tm : List Value) (ds) (d : Nat) (v : Value) : (Act.mk tm.toArray ds).put (some d) v = Act.mk (tm.set d v).toArray ds := by
  simp [Act.put]
section
variable {F : Fence} {n : Nat} {P : Program} {opsL : List Oper} {Q : Exit → Act → World → Prop} {md : Region.Mode} {S : World → Prop}
theorem startIn {id : Nat} {a : Act} {w : World} (k : Nat) (hk : opsL.length = k) (hm : P.follows .mixedOrders = true)
    (h : wpAnyIn F n P .any opsL.toArray Q k (List.replicate k false).toArray a w.drew) : (Code.region id opsL.toArray true).wpIn F n P Q a w := by
  subst hk
  refine wpIn_region_any hm ?_
  simpa using h
theorem takeIn {i d : Nat} {oi : Oper} {v : Value} {fuel : Nat} {L : List Bool} {tm : List Value} {ds} {w : World} (hro : F.round = none) (hi : nthL opsL i = some oi) (hd : oi.dst = some d)
    (hs : Region.noSelect opsL.toArray = true) (hf : Region.free md opsL.toArray L.toArray i = true) (hr : (Region.ready md opsL.toArray L.toArray).contains i = true)
    (hQ : ∀ c a w, Q (.panic c) (a.put (some d) v) w → Q (.panic c) a w) (hy : YieldsFenced P opsL.toArray oi v ⟨tm.toArray, ds⟩)
    (h : wpAnyIn F n P md opsL.toArray Q fuel (L.set i true).toArray ⟨(tm.set d v).toArray, ds⟩ w) : wpAnyIn F n P md opsL.toArray Q (fuel + 1) L.toArray ⟨tm.toArray, ds⟩ w := by
  refine wpAnyIn_take hro (nthL_get hi) hs hf hr (by rw [hd]; exact hQ) hy ?_
  rw [hd, put_lit]
  simpa using h
theorem startH {id : Nat} {a : Act} {w : World} (k : Nat) (hk : opsL.length = k) (hm : P.follows .mixedOrders = true) (hS : S w.drew)
    (h : S w.drew → wpAnyH P .any opsL.toArray Q S k (List.replicate k false).toArray a w.drew) : (Code.region id opsL.toArray true).wp P Q a w := by
  subst hk
  refine wp_region_held_drew (S := S) hm hS (fun h' => ?_)
  simpa using h h'
theorem takeH {i d : Nat} {oi : Oper} {v : Value} {fuel : Nat} {L : List Bool} {tm : List Value} {ds} {w : World} (hi : nthL opsL i = some oi) (hd : oi.dst = some d)
    (hs : Region.noSelect opsL.toArray = true) (hf : Region.free md opsL.toArray L.toArray i = true) (hr : (Region.ready md opsL.toArray L.toArray).contains i = true)
    (hQ : ∀ c a w, Q (.panic c) (a.put (some d) v) w → Q (.panic c) a w) (hy : YieldsIf P opsL.toArray S oi v ⟨tm.toArray, ds⟩) (hS : S w)
    (h : wpAnyH P md opsL.toArray Q S fuel (L.set i true).toArray ⟨(tm.set d v).toArray, ds⟩ w) : wpAnyH P md opsL.toArray Q S (fuel + 1) L.toArray ⟨tm.toArray, ds⟩ w := by
  refine wpAnyH_take (nthL_get hi) hs hf hr (by rw [hd]; exact hQ) hy hS ?_
  rw [hd, put_lit]
  simpa using h
end
end Go.Proofs.YtfdnpchbbngpjaaGreat
