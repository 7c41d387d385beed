/- Several devices at once, apart from one another. -/
import Derived.Test.YtfhcecfddejcdaaVeql
namespace Go.Proofs.Ytfhcecfddejcdaa
open Go.RowKit Go.Maps

theorem crash_own {w : World} {vb : Nat} {st : VS} {F : List Nat} (h : VolF w vb st F) :
    Calls Try.prog 27 #[.pointer (some ⟨vb, 0, none⟩)] w fun e w' => e = .returned (.tuple #[]) ∧ Step F w w' vb st.crash := by
  obtain ⟨mb, pv, h, rfl⟩ := h
  exact (crash_any h).mono fun e w' ⟨he, hv, ht⟩ => ⟨he, _, ⟨mb, pv, hv, rfl⟩, ht.mono (fun i hi => by simp at hi; subst hi; exact Vol.foot_vb), fun i hi => .inl hi⟩
theorem limit_own (n : Int) {w : World} {vb : Nat} {st : VS} {F : List Nat} (h : VolF w vb st F) (hn : n ≤ 9223372036854775807) :
    Calls Try.prog 28 #[.pointer (some ⟨vb, 0, none⟩), .int .i64 n] w fun e w' => e = .returned (.tuple #[]) ∧ Step F w w' vb (st.limit n) := by
  obtain ⟨mb, pv, h, rfl⟩ := h
  exact (limit_any n h hn).mono fun e w' ⟨he, hv, ht⟩ => ⟨he, _, ⟨mb, pv, hv, rfl⟩, ht.mono (fun i hi => by simp at hi; subst hi; exact Vol.foot_vb), fun i hi => .inl hi⟩
theorem down_own {w : World} {vb : Nat} {st : VS} {F : List Nat} (h : VolF w vb st F) :
    Calls Try.prog 24 #[.pointer (some ⟨vb, 0, none⟩)] w fun e w' => e = .returned (.bool st.down) ∧ w = w' := by
  obtain ⟨mb, pv, h, rfl⟩ := h
  exact down_any h
theorem len_own {w : World} {vb : Nat} {st : VS} {F : List Nat} (h : VolF w vb st F) :
    Calls Try.prog 19 #[.pointer (some ⟨vb, 0, none⟩)] w fun e w' => e = .returned (.int .i64 (st.dur.length : Int)) ∧ w = w' := by
  obtain ⟨mb, pv, h, rfl⟩ := h
  exact len_any h
theorem dur_own (s : Int) {w : World} {vb : Nat} {st : VS} {F : List Nat} (h : VolF w vb st F) :
    Calls Try.prog 21 #[.pointer (some ⟨vb, 0, none⟩), .int .i64 s] w fun e w' => e = .returned (.tuple #[.string (st.durable s).1, .int .i64 ((st.durable s).2 : Int)]) ∧ Below w.heap.size w w' := by
  obtain ⟨mb, pv, h, rfl⟩ := h
  exact durable_any s h
/-- Pending: a slice of the sectors, of the call's own -/
theorem pend_own {w : World} {vb : Nat} {st : VS} {F : List Nat} (h : VolF w vb st F) :
    Calls Try.prog 17 #[.pointer (some ⟨vb, 0, none⟩)] w fun e w' => ∃ ao cap, e = .returned (.slice ao st.pend.length cap) ∧ w'.ownsRow w.heap.size 3 1 (.slice ao st.pend.length cap) st.pend.length ((sects st.pend).map (Value.int .i64)) ∧ Below w.heap.size w w' := by
  obtain ⟨mb, pv, h, rfl⟩ := h
  refine (pending_any h).mono ?_
  rintro e w' ⟨v, rfl, ho, hb⟩
  have hl : (sects st.pend).length = st.pend.length := by simp [sects]
  rw [hl] at ho
  obtain ⟨ao, cap, rfl⟩ := row_form ho
  exact ⟨ao, cap, rfl, ho, hb⟩

/-- devices in memory of the call's own, apart from one another -/
def Devs (w w' : World) (L : List (Nat × VS × List Nat)) : Prop :=
  Below w.heap.size w w' ∧ L.Pairwise (fun x y => ∀ i, i ∈ x.2.2 → i ∉ y.2.2) ∧ ∀ x, x ∈ L → VolF w' x.1 x.2.1 x.2.2 ∧ ∀ i, i ∈ x.2.2 → w.heap.size ≤ i
section
variable {w w1 w2 : World} {L A B : List (Nat × VS × List Nat)} {vb : Nat} {st st' : VS} {F : List Nat}
theorem Devs.one (h : Own w w1 vb st F) : Devs w w1 [(vb, st, F)] := ⟨h.2.1, by simp, fun x hx => by simp at hx; subst hx; exact ⟨h.1, h.2.2⟩⟩
theorem Devs.below (h : Devs w w1 L) (hb : Below w1.heap.size w1 w2) : Devs w w2 L := ⟨h.1.trans (hb.mono h.1.size), h.2.1, fun x hx => ⟨(h.2.2 x hx).1.below hb, (h.2.2 x hx).2⟩⟩
theorem Devs.push (h : Devs w w1 L) (ho : Own w1 w2 vb st F) : Devs w w2 ((vb, st, F) :: L) := by
  obtain ⟨h1, h2, h3⟩ := h
  refine ⟨h1.trans (ho.2.1.mono h1.size), List.pairwise_cons.2 ⟨fun y hy i hi hm => ?_, h2⟩, fun x hx => ?_⟩
  · have k1 := ho.2.2 i hi
    have k2 := (h3 y hy).1.lt i hm
    omega
  · rcases List.mem_cons.1 hx with rfl | hx
    · exact ⟨ho.1, fun i hi => Nat.le_trans h1.size (ho.2.2 i hi)⟩
    · exact ⟨(h3 x hx).1.below ho.2.1, (h3 x hx).2⟩
theorem Devs.step (h : Devs w w1 (A ++ (vb, st, F) :: B)) (hs : Step F w1 w2 vb st') : ∃ F', Devs w w2 (A ++ (vb, st', F') :: B) := by
  obtain ⟨h1, h2, h3⟩ := h
  obtain ⟨F', k1, k2, k3⟩ := hs
  obtain ⟨pA, pB, pAB⟩ := List.pairwise_append.1 h2
  obtain ⟨pv, pB⟩ := List.pairwise_cons.1 pB
  have hF := (h3 (vb, st, F) (by simp)).2
  have offA : ∀ x, x ∈ A → ∀ i, i ∈ x.2.2 → i ∉ F := fun x hx => pAB x hx (vb, st, F) (by simp)
  have offB : ∀ x, x ∈ B → ∀ i, i ∈ x.2.2 → i ∉ F := fun x hx i hi hm => pv x hx i hm hi
  have far : ∀ x, (x ∈ A ∨ x ∈ B) → ∀ i, i ∈ x.2.2 → i ∉ F' := by
    intro x hx i hi hm
    have hlt := (h3 x (by rcases hx with hx | hx <;> simp [hx])).1.lt i hi
    rcases k3 i hm with e | e
    · rcases hx with hx | hx
      · exact offA x hx i hi e
      · exact offB x hx i hi e
    · omega
  refine ⟨F', h1.trans (k2.toBelow hF h1.size), List.pairwise_append.2 ⟨pA, List.pairwise_cons.2 ⟨fun y hy i hi hm => far y (.inr hy) i hm hi, pB⟩, fun x hx y hy => ?_⟩, fun x hx => ?_⟩
  · rcases List.mem_cons.1 hy with rfl | hy
    · exact far x (.inl hx)
    · exact pAB x hx y (by simp [hy])
  · rcases List.mem_append.1 hx with hx | hx
    · exact ⟨(h3 x (by simp [hx])).1.turn k2 (offA x hx), (h3 x (by simp [hx])).2⟩
    · rcases List.mem_cons.1 hx with rfl | hx
      · refine ⟨k1, fun i hi => ?_⟩
        rcases k3 i hi with e | e
        · exact hF i e
        · exact Nat.le_trans h1.size e
      · exact ⟨(h3 x (by simp [hx])).1.turn k2 (offB x hx), (h3 x (by simp [hx])).2⟩
theorem Devs.v0 (h : Devs w w1 ((vb, st, F) :: L)) : VolF w1 vb st F := (h.2.2 (vb, st, F) (by simp)).1
theorem Devs.v1 {x : Nat × VS × List Nat} (h : Devs w w1 (x :: (vb, st, F) :: L)) : VolF w1 vb st F := (h.2.2 (vb, st, F) (by simp)).1
theorem Devs.v2 {x y : Nat × VS × List Nat} (h : Devs w w1 (x :: y :: (vb, st, F) :: L)) : VolF w1 vb st F := (h.2.2 (vb, st, F) (by simp)).1
theorem Devs.v3 {x y z : Nat × VS × List Nat} (h : Devs w w1 (x :: y :: z :: (vb, st, F) :: L)) : VolF w1 vb st F := (h.2.2 (vb, st, F) (by simp)).1
theorem Devs.s0 (h : Devs w w1 ((vb, st, F) :: L)) (hs : Step F w1 w2 vb st') : ∃ F', Devs w w2 ((vb, st', F') :: L) := h.step (A := []) hs
theorem Devs.s1 {x : Nat × VS × List Nat} (h : Devs w w1 (x :: (vb, st, F) :: L)) (hs : Step F w1 w2 vb st') : ∃ F', Devs w w2 (x :: (vb, st', F') :: L) := h.step (A := [x]) hs
theorem Devs.s2 {x y : Nat × VS × List Nat} (h : Devs w w1 (x :: y :: (vb, st, F) :: L)) (hs : Step F w1 w2 vb st') : ∃ F', Devs w w2 (x :: y :: (vb, st', F') :: L) := h.step (A := [x, y]) hs
theorem Devs.s3 {x y z : Nat × VS × List Nat} (h : Devs w w1 (x :: y :: z :: (vb, st, F) :: L)) (hs : Step F w1 w2 vb st') : ∃ F', Devs w w2 (x :: y :: z :: (vb, st', F') :: L) := h.step (A := [x, y, z]) hs
theorem Devs.off0 (h : Devs w w1 ((vb, st, F) :: L)) : ∀ i, i ∈ F → w.heap.size ≤ i := (h.2.2 (vb, st, F) (by simp)).2
theorem Devs.drop (h : Devs w w1 ((vb, st, F) :: L)) : Devs w w1 L := ⟨h.1, (List.pairwise_cons.1 h.2.1).2, fun x hx => h.2.2 x (by simp [hx])⟩
end
theorem still_start {st : VS} (hp : st.pend = []) (hl : st.lim = none) (hd : st.down = false) (cs : List UInt8) : st.crash.start cs = st := by
  obtain ⟨d, p, l, b⟩ := st
  simp at hp hl hd
  subst hp hl hd
  simp [VS.crash, VS.start, settle]
theorem started (st : VS) (cs : List UInt8) : ∃ ds, st.crash.start cs = ⟨ds, [], none, false⟩ := ⟨settle st.pend cs st.dur, by simp [VS.crash, VS.start]⟩
end Go.Proofs.Ytfhcecfddejcdaa
