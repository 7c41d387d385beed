/- What a trie holds: the patterns at each node; the root's own cells. -/
import Derived.Test.YtdcdlmigagjbiaaDoorHtq
namespace Go.Proofs.YtdcdlmigagjbiaaDoor
open Go.RowKit Go.Maps
def contT (f : TF) (q : List Int) : List Pat := match f q with | some n => n.ps | none => []
def RootOf (f : TF) (hb : Nat) (rest : List Value) (typ : TypeId) : Prop := ∃ r, f [] = some r ∧ r.blk = hb ∧ r.rest = rest ∧ r.typ = typ
theorem contT_at {f : TF} {q : List Int} {n : TN} (h : f q = some n) : contT f q = n.ps := by unfold contT; rw [h]
theorem contT_none {f : TF} {q : List Int} (h : f q = none) : contT f q = [] := by unfold contT; rw [h]
theorem contT_set {f : TF} {q : List Int} {n : TN} (hq : f q = some n) (m : Option Nat) : contT (updT f q { n with mb := m }) = contT f := by
  funext x
  by_cases e : x = q
  · subst e; rw [contT_at (updT_same _ _ _), contT_at hq]
  · unfold contT; rw [updT_other _ _ e]
theorem contT_new {f : TF} {q : List Int} (hq : f q = none) (b : Nat) : contT (updT f q (newTN b)) = contT f := by
  funext x
  by_cases e : x = q
  · subst e; rw [contT_at (updT_same _ _ _), contT_none hq]; rfl
  · unfold contT; rw [updT_other _ _ e]
theorem contT_add {f : TF} {q : List Int} {n : TN} (hq : f q = some n) (v : Value) (P : Pat) (x : List Int) : contT (updT f q { n with pv := v, ps := n.ps ++ [P] }) x = contT f x ++ (if x = q then [P] else []) := by
  by_cases e : x = q
  · subst e; rw [contT_at (updT_same _ _ _), contT_at hq, if_pos rfl]
  · rw [if_neg e, List.append_nil]; unfold contT; rw [updT_other _ _ e]
theorem RootOf.upd {f : TF} {hb : Nat} {rest : List Value} {typ : TypeId} (h : RootOf f hb rest typ) {q : List Int} {n n' : TN} (hq : f q = some n) (h1 : n'.blk = n.blk) (h2 : n'.rest = n.rest) (h3 : n'.typ = n.typ) : RootOf (updT f q n') hb rest typ := by
  obtain ⟨r, hr, hb', hs, ht⟩ := h
  by_cases e : ([] : List Int) = q
  · subst e
    rw [hq] at hr
    obtain rfl := Option.some.inj hr
    exact ⟨n', updT_same _ _ _, h1.trans hb', h2.trans hs, h3.trans ht⟩
  · exact ⟨r, (updT_other _ _ e).trans hr, hb', hs, ht⟩
theorem RootOf.new {f : TF} {hb : Nat} {rest : List Value} {typ : TypeId} (h : RootOf f hb rest typ) {q : List Int} {n' : TN} (hq : f q = none) : RootOf (updT f q n') hb rest typ := by
  obtain ⟨r, hr, hb', hs, ht⟩ := h
  refine ⟨r, (updT_other _ _ ?_).trans hr, hb', hs, ht⟩
  rintro rfl
  rw [hq] at hr; cases hr
section
variable {w w' : World} {B hb eb K : Nat} {eo : Option Obj} {f : TF}
/-- what is below a node that is none is none -/
theorem Trie.none_below (h : Trie w B hb eb eo f K) {q : List Int} (hq : f q = none) : ∀ r, f (q ++ r) = none := by
  intro r
  suffices ∀ r : List Int, f (q ++ r.reverse) = none by have := this r.reverse; simpa using this
  intro r
  induction r with
  | nil => simpa using hq
  | cons c r ih =>
    rw [List.reverse_cons, ← List.append_assoc]
    have := h.closed (q ++ r.reverse) c
    rw [ih] at this
    cases hh : f (q ++ r.reverse ++ [c]) with
    | none => rfl
    | some y => rw [hh] at this; exact absurd (this rfl) (by simp)
end
end Go.Proofs.YtdcdlmigagjbiaaDoor
