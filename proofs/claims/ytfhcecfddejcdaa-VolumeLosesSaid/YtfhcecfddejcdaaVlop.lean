/- What a failure leaves: plain facts for the law VolumeLoses. -/
import Derived.Test.YtfhcecfddejcdaaVst
namespace Go.Proofs.Ytfhcecfddejcdaa
theorem set_same (ds : List ByteArray) (i : Nat) : ds.set i (ds.getD i zb) = ds := by
  apply List.ext_getElem?
  intro j
  rw [List.getElem?_set]
  split
  · rename_i e
    subst e
    by_cases h : i < ds.length
    · simp [h, List.getD]
    · simp [h]
  · rfl
theorem surv_zero (a b : ByteArray) : surv a b 0 = a := by simp [surv]
theorem surv_one (a b : ByteArray) : surv a b 1 = b := by simp [surv]
theorem settle_none (ps : List (Nat × ByteArray)) (ds : List ByteArray) : settle ps [] ds = ds := by
  induction ps generalizing ds with
  | nil => rfl
  | cons p r ih =>
    unfold settle
    rw [show (([] : List UInt8).headD 0).toNat = 0 from rfl, surv_zero, set_same]
    exact ih ds
theorem settle_ones (ps : List (Nat × ByteArray)) (ds : List ByteArray) : settle ps (List.replicate ps.length 1) ds = flush ps ds := by
  induction ps generalizing ds with
  | nil => rfl
  | cons p r ih =>
    rw [List.length_cons, List.replicate_succ]
    unfold settle
    rw [show ((1 :: List.replicate r.length (1 : UInt8)).headD 0).toNat = 1 from rfl, surv_one]
    exact ih _
theorem flush_snoc (ps : List (Nat × ByteArray)) (p : Nat × ByteArray) (ds : List ByteArray) : flush (ps ++ [p]) ds = (flush ps ds).set p.1 p.2 := by simp [flush]
theorem lastAt_snoc (ps : List (Nat × ByteArray)) (p : Nat × ByteArray) (i : Nat) : lastAt (ps ++ [p]) i = if p.1 = i then some p.2 else lastAt ps i := by
  unfold lastAt
  rw [List.reverse_append, List.reverse_cons, List.reverse_nil, List.nil_append, List.singleton_append, List.find?_cons]
  by_cases e : p.1 = i
  · simp [e]
  · rw [if_neg e, show (p.1 == i) = false from beq_eq_false_iff_ne.2 e]
theorem flush_at (ps : List (Nat × ByteArray)) (ds : List ByteArray) {i : Nat} (hi : i < ds.length) : (flush ps ds).getD i zb = (lastAt ps i).getD (ds.getD i zb) := by
  suffices ∀ r : List (Nat × ByteArray), (flush r.reverse ds).getD i zb = (lastAt r.reverse i).getD (ds.getD i zb) by have := this ps.reverse; simpa using this
  intro r
  induction r with
  | nil => simp [flush, lastAt]
  | cons p r ih =>
    rw [List.reverse_cons, flush_snoc, lastAt_snoc]
    by_cases e : p.1 = i
    · rw [if_pos e, ← e, List.getD_eq_getElem?_getD, List.getElem?_set_self (by rw [flush_len, e]; exact hi)]
      rfl
    · rw [if_neg e, ← ih, List.getD_eq_getElem?_getD, List.getElem?_set_ne e, ← List.getD_eq_getElem?_getD]
theorem settle_off (ps : List (Nat × ByteArray)) (cs : List UInt8) (ds : List ByteArray) {i : Nat} (h : i ∉ ps.map (·.1)) : (settle ps cs ds).getD i zb = ds.getD i zb := by
  induction ps generalizing cs ds with
  | nil => rfl
  | cons p r ih =>
    simp at h
    unfold settle
    rw [ih _ _ (by simpa using h.2), List.getD_eq_getElem?_getD, List.getElem?_set_ne (fun e => h.1 e.symm), ← List.getD_eq_getElem?_getD]
theorem inR_nat {k n : Nat} (h : k < n) : inR (k : Int) n = true := by unfold inR; simp; exact h
theorem read_still {ds : List ByteArray} {l : Option Nat} {k : Nat} (h : k < ds.length) : (⟨ds, [], l, false⟩ : VS).read (k : Int) = (ds.getD k zb, 0) := by
  unfold VS.read
  rw [if_neg (by simp), if_neg (by rw [inR_nat h]; simp), Int.toNat_natCast]
  simp [VS.content, lastAt, VS.at_]
theorem start_none (q : VS) : q.crash.start [] = ⟨q.dur, [], none, false⟩ := by simp [VS.crash, VS.start, settle_none]
theorem start_ones (q : VS) : q.crash.start (List.replicate q.pend.length 1) = ⟨flush q.pend q.dur, [], none, false⟩ := by simp [VS.crash, VS.start, settle_ones]
theorem start_some (q : VS) (cs : List UInt8) : q.crash.start cs = ⟨settle q.pend cs q.dur, [], none, false⟩ := by simp [VS.crash, VS.start]
theorem read_up {q : VS} (hd : q.down = false) {k : Nat} (h : k < q.dur.length) : q.read (k : Int) = (q.content k, 0) := by
  unfold VS.read
  rw [if_neg (by simp [hd]), if_neg (by rw [inR_nat h]; simp), Int.toNat_natCast]
theorem durable_in {q : VS} {k : Nat} (h : k < q.dur.length) : q.durable (k : Int) = (q.at_ k, 0) := by
  unfold VS.durable
  rw [if_neg (by rw [inR_nat h]; simp), Int.toNat_natCast]
end Go.Proofs.Ytfhcecfddejcdaa
