/- A device's state and what its operations do to it: plain lists and numbers. -/
import Derived.Test.YtfdnpchbbngpjaaGreatVmem
namespace Go.Proofs.YtfdnpchbbngpjaaGreat
open Go.RowKit Go.Maps

/-- the state of a device: durable contents, pending writes, how many operations are left before a failure, down -/
structure VS where
  dur : List ByteArray
  pend : List (Nat × ByteArray)
  lim : Option Nat
  down : Bool

structure VS.wf (st : VS) : Prop where
  pos : 1 ≤ st.dur.length
  len : st.dur.length ≤ 65536
  dur : ∀ d, d ∈ st.dur → d.size = 256
  sect : ∀ p, p ∈ st.pend → p.1 < st.dur.length
  data : ∀ p, p ∈ st.pend → p.2.size = 256
  room : st.pend.length ≤ 4096
  lim : ∀ l, st.lim = some l → l ≤ 9223372036854775807

/-- one operation is counted: does the device fail during it? -/
def VS.tick (st : VS) : Bool × VS :=
  match st.lim with
  | none => (false, st)
  | some 0 => (true, { st with down := true })
  | some (n + 1) => (false, { st with lim := some n })
def VS.at_ (st : VS) (i : Nat) : ByteArray := st.dur.getD i zb
def lastAt (ps : List (Nat × ByteArray)) (i : Nat) : Option ByteArray := (ps.reverse.find? fun p => p.1 == i).map (·.2)
def VS.content (st : VS) (i : Nat) : ByteArray := (lastAt st.pend i).getD (st.at_ i)
def inR (s : Int) (n : Nat) : Bool := decide (0 ≤ s) && decide (s < (n : Int))
def VS.write (st : VS) (s : Int) (d : ByteArray) : Nat × VS :=
  if st.down then (36, st) else if inR s st.dur.length = false then (2, st) else if d.size ≠ 256 then (10, st) else if 4096 ≤ st.pend.length then (37, st) else
  let r := ({ st with pend := st.pend ++ [(s.toNat, d)] } : VS).tick
  (if r.1 then 36 else 0, r.2)
def VS.read (st : VS) (s : Int) : ByteArray × Nat :=
  if st.down then (⟨#[]⟩, 36) else if inR s st.dur.length = false then (⟨#[]⟩, 2) else (st.content s.toNat, 0)
def VS.durable (st : VS) (s : Int) : ByteArray × Nat := if inR s st.dur.length = false then (⟨#[]⟩, 2) else (st.at_ s.toNat, 0)
def flush (ps : List (Nat × ByteArray)) (ds : List ByteArray) : List ByteArray := ps.foldl (fun ds p => ds.set p.1 p.2) ds
def VS.barrier (st : VS) : Nat × VS :=
  if st.down then (36, st) else
  let r := st.tick
  if r.1 then (36, r.2) else (0, { r.2 with dur := flush r.2.pend r.2.dur, pend := [] })
/-- what survives of a write -/
def surv (old new : ByteArray) (c : Nat) : ByteArray :=
  let n := 64 * (c / 4 % 3 + 1)
  if c % 4 = 0 then old else if c % 4 = 1 then new else if c % 4 = 2 then ⟨(new.data.toList.take n ++ old.data.toList.drop n).toArray⟩ else ⟨(old.data.toList.take n ++ new.data.toList.drop n).toArray⟩
def settle : List (Nat × ByteArray) → List UInt8 → List ByteArray → List ByteArray
  | [], _, ds => ds
  | p :: r, cs, ds => settle r cs.tail (ds.set p.1 (surv (ds.getD p.1 zb) p.2 (cs.headD 0).toNat))
def VS.start (st : VS) (script : List UInt8) : VS :=
  if st.down then { dur := settle st.pend script st.dur, pend := [], lim := none, down := false } else st
def VS.limit (st : VS) (n : Int) : VS := { st with lim := some (max n 0).toNat }
def VS.crash (st : VS) : VS := { st with down := true }
def VS.new (n : Nat) : VS := ⟨List.replicate n zb, [], none, false⟩

theorem VS.wf_new {n : Nat} (h1 : 1 ≤ n) (h2 : n ≤ 65536) : (VS.new n).wf :=
  ⟨by simp [VS.new]; omega, by simp [VS.new]; omega, fun d hd => by
    rw [(List.mem_replicate.1 (show d ∈ List.replicate n zb from hd)).2]; exact zb_size, fun p hp => by simp [VS.new] at hp, fun p hp => by simp [VS.new] at hp, by simp [VS.new], fun l hl => by simp [VS.new] at hl⟩
theorem VS.tick_dur (st : VS) : st.tick.2.dur = st.dur ∧ st.tick.2.pend = st.pend := by
  unfold VS.tick; split <;> exact ⟨rfl, rfl⟩
theorem VS.wf.tick {st : VS} (h : st.wf) : st.tick.2.wf := by
  obtain ⟨e1, e2⟩ := st.tick_dur
  refine ⟨by rw [e1]; exact h.pos, by rw [e1]; exact h.len, by rw [e1]; exact h.dur, by rw [e1, e2]; exact h.sect, by rw [e2]; exact h.data, by rw [e2]; exact h.room, ?_⟩
  intro l hl
  unfold VS.tick at hl
  split at hl
  · exact h.lim l hl
  · exact h.lim l hl
  · rename_i n hn
    simp at hl
    have := h.lim _ hn
    omega
theorem surv_size {a b : ByteArray} (ha : a.size = 256) (hb : b.size = 256) (c : Nat) : (surv a b c).size = 256 := by
  have h1 : a.data.toList.length = 256 := by simpa using ha
  have h2 : b.data.toList.length = 256 := by simpa using hb
  have h3 : 64 * (c / 4 % 3 + 1) ≤ 256 := by omega
  unfold surv
  simp only
  split
  · exact ha
  · split
    · exact hb
    · split
      · show (List.toArray _).size = 256
        rw [List.size_toArray, List.length_append, List.length_take, List.length_drop]
        omega
      · show (List.toArray _).size = 256
        rw [List.size_toArray, List.length_append, List.length_take, List.length_drop]
        omega
theorem at_size {ds : List ByteArray} (h : ∀ d, d ∈ ds → d.size = 256) (i : Nat) : (ds.getD i zb).size = 256 := by
  rw [List.getD_eq_getElem?_getD]
  cases e : ds[i]? with
  | none => exact zb_size
  | some d => exact h d (List.mem_of_getElem? e)
theorem set_sizes {ds : List ByteArray} (h : ∀ d, d ∈ ds → d.size = 256) (i : Nat) {d : ByteArray} (hd : d.size = 256) : ∀ x, x ∈ ds.set i d → x.size = 256 := by
  intro x hx
  rcases List.mem_or_eq_of_mem_set hx with h1 | h1
  · exact h x h1
  · rw [h1]; exact hd
theorem flush_len (ps : List (Nat × ByteArray)) (ds : List ByteArray) : (flush ps ds).length = ds.length := by
  unfold flush
  induction ps generalizing ds with
  | nil => rfl
  | cons p r ih => rw [List.foldl_cons, ih, List.length_set]
theorem flush_sizes {ps : List (Nat × ByteArray)} {ds : List ByteArray} (h : ∀ d, d ∈ ds → d.size = 256) (hp : ∀ p, p ∈ ps → p.2.size = 256) : ∀ d, d ∈ flush ps ds → d.size = 256 := by
  unfold flush
  induction ps generalizing ds with
  | nil => exact h
  | cons p r ih => rw [List.foldl_cons]; exact ih (set_sizes h _ (hp p (by simp))) (fun q hq => hp q (by simp [hq]))
theorem settle_len (ps : List (Nat × ByteArray)) (cs : List UInt8) (ds : List ByteArray) : (settle ps cs ds).length = ds.length := by
  induction ps generalizing cs ds with
  | nil => rfl
  | cons p r ih => unfold settle; rw [ih, List.length_set]
theorem settle_sizes {ps : List (Nat × ByteArray)} {cs : List UInt8} {ds : List ByteArray} (h : ∀ d, d ∈ ds → d.size = 256) (hp : ∀ p, p ∈ ps → p.2.size = 256) : ∀ d, d ∈ settle ps cs ds → d.size = 256 := by
  induction ps generalizing cs ds with
  | nil => exact h
  | cons p r ih => unfold settle; exact ih (set_sizes h _ (surv_size (at_size h _) (hp p (by simp)) _)) (fun q hq => hp q (by simp [hq]))
theorem inR_iff {s : Int} {n : Nat} : inR s n = true ↔ 0 ≤ s ∧ s < (n : Int) := by simp [inR]
theorem VS.wf.push {st : VS} (h : st.wf) {s : Nat} {d : ByteArray} (hs : s < st.dur.length) (hd : d.size = 256) (hr : st.pend.length < 4096) : ({ st with pend := st.pend ++ [(s, d)] } : VS).wf :=
  ⟨h.pos, h.len, h.dur, fun p hp => by
    rcases List.mem_append.1 hp with hp | hp
    · exact h.sect p hp
    · simp at hp; subst hp; exact hs, fun p hp => by
    rcases List.mem_append.1 hp with hp | hp
    · exact h.data p hp
    · simp at hp; subst hp; exact hd, by simp; omega, h.lim⟩
theorem VS.wf.write {st : VS} (h : st.wf) (s : Int) (d : ByteArray) : (st.write s d).2.wf := by
  unfold VS.write
  split
  · exact h
  · split
    · exact h
    · split
      · exact h
      · split
        · exact h
        · rename_i h1 h2 h3 h4
          have h5 : inR s st.dur.length = true := by simpa using h2
          have h5 := inR_iff.1 h5
          exact (h.push (by omega) (by simpa using h3) (by omega)).tick
theorem VS.wf.settled {st : VS} (h : st.wf) {ds : List ByteArray} (hl : ds.length = st.dur.length) (hd : ∀ d, d ∈ ds → d.size = 256) (o : Option Nat) (ho : ∀ l, o = some l → l ≤ 9223372036854775807) (b : Bool) : (⟨ds, [], o, b⟩ : VS).wf :=
  ⟨by simp [hl]; exact h.pos, by simp [hl]; exact h.len, hd, fun p hp => by simp at hp, fun p hp => by simp at hp, by simp, ho⟩
theorem VS.wf.barrier {st : VS} (h : st.wf) : st.barrier.2.wf := by
  unfold VS.barrier
  split
  · exact h
  · simp only
    split
    · exact h.tick
    · exact h.tick.settled (flush_len _ _) (flush_sizes h.tick.dur h.tick.data) _ h.tick.lim _
theorem VS.wf.start {st : VS} (h : st.wf) (cs : List UInt8) : (st.start cs).wf := by
  unfold VS.start
  split
  · exact h.settled (settle_len _ _ _) (settle_sizes h.dur h.data) none (fun l hl => by cases hl) false
  · exact h
theorem VS.wf.limit {st : VS} (h : st.wf) {n : Int} (hn : n ≤ 9223372036854775807) : (st.limit n).wf :=
  ⟨h.pos, h.len, h.dur, h.sect, h.data, h.room, fun l hl => by
    have : (max n 0).toNat = l := by simpa [VS.limit] using hl
    omega⟩
theorem VS.wf.crash {st : VS} (h : st.wf) : st.crash.wf := ⟨h.pos, h.len, h.dur, h.sect, h.data, h.room, h.lim⟩
end Go.Proofs.YtfdnpchbbngpjaaGreat
