/- The device goes on by itself beside its journal and its book; a sector is written. -/
import Derived.Test.YtfdnpchbbngpjaaJxb
namespace Go.Proofs.Ytfdnpchbbngpjaa
open Go.RowKit Go.Maps

theorem lastAt_snoc (ps : List (Nat × ByteArray)) (k i : Nat) (d : ByteArray) : lastAt (ps ++ [(k, d)]) i = if k = i then some d else lastAt ps i := by
  unfold lastAt
  rw [List.reverse_append]
  by_cases h : k = i
  · subst h
    simp
  · rw [if_neg h]
    simp [h]
theorem VS.write_calm {st : VS} (hC : Calm st) {k : Nat} (hk : k < st.dur.length) {d : ByteArray} (hs : d.size = 256) (hr : st.pend.length < 4096) :
    (st.write (k : Int) d).1 = 0 ∧ Calm (st.write (k : Int) d).2 ∧ (st.write (k : Int) d).2.dur = st.dur ∧ (st.write (k : Int) d).2.pend = st.pend ++ [(k, d)] := by
  obtain ⟨h1, h2, h3⟩ := VS.write_two hC.2 hk hs hr
  have h4 := hC.write (k : Int) d
  rcases h1 with ⟨a, _⟩ | ⟨a, _⟩
  · exact ⟨a, h4.1, h2, h3⟩
  · exact absurd a h4.2
theorem sct_write {st st' : VS} {k : Nat} {d : ByteArray} (hd : st'.dur = st.dur) (hp : st'.pend = st.pend ++ [(k, d)]) (i : Nat) : st'.sct i = if k = i then d.data.toList else st.sct i := by
  unfold VS.sct VS.content VS.at_
  rw [hp, hd, lastAt_snoc]
  split <;> rfl
section
variable {w0 w w' : World} {vb jb bb tb : Nat} {S : JS} {br : Bool} {st st' : VS} {B : BS} {X : List (Nat × Obj)}
theorem JV.stepOf {rv : Value} {hen : Nat} {F : List Nat} (h : JV w jb vb tb S br rv hen st F) (hs : Step F w w' vb st') : StepV w w' jb vb tb rv F S br st' := by
  obtain ⟨F', k1, k2, k3⟩ := h.stepD hs
  refine ⟨rv, hen, F', k1, k2.mono (fun i hi => by simp [jvfoot, hi]), fun i hi => ?_⟩
  unfold jvfoot at hi ⊢
  rcases List.mem_cons.1 hi with rfl | hi
  · exact .inl (by simp)
  rcases List.mem_append.1 hi with hi | hi
  · exact .inl (by simp [hi])
  · rcases k3 i hi with e | e
    · exact .inl (by simp [e])
    · exact .inr e
theorem kdev {f : FuncId} {a : Array Value} (P : Ending → Prop) (h : Wk w0 w vb jb bb tb S br st B X)
    (hc : ∀ F, VolF w vb st F → Calls Try.prog f a w fun e w' => P e ∧ Step F w w' vb st') : Calls Try.prog f a w fun e w' => P e ∧ Wk w0 w' vb jb bb tb S br st' B X := by
  obtain ⟨rv, hen, F, G, k1, k2, k3, k4, k5, k6⟩ := h
  refine (hc F k1.v).mono ?_
  rintro e w' ⟨hp, hs⟩
  exact ⟨hp, Wk.toV k1 k2 k3 k4 k5 k6 (k1.stepOf hs)⟩
/-- a sector is read -/
theorem kvread (h : Wk w0 w vb jb bb tb S br st B X) (hd : st.down = false) {k : Nat} (hk : k < st.dur.length) :
    Calls Try.prog 12 #[.pointer (some ⟨vb, 0, none⟩), .int .i64 (k : Int)] w fun e w' => e = .returned (.tuple #[.string (st.content k), .int .i64 0]) ∧ Wk w0 w' vb jb bb tb S br st B X :=
  h.callL _ (fun _ _ _ _ j _ => by
    have := read_any (k : Int) j.v
    rw [read_in hd hk] at this
    exact this)
/-- a sector is written -/
theorem kvwrite (h : Wk w0 w vb jb bb tb S br st B X) (k : Nat) (d : ByteArray) :
    Calls Try.prog 13 #[.pointer (some ⟨vb, 0, none⟩), .int .i64 (k : Int), .string d] w fun e w' => e = .returned (.int .i64 ((st.write (k : Int) d).1 : Int)) ∧ Wk w0 w' vb jb bb tb S br (st.write (k : Int) d).2 B X :=
  kdev _ h (fun _ k' => write_any (k : Int) d k')
end
end Go.Proofs.Ytfdnpchbbngpjaa
