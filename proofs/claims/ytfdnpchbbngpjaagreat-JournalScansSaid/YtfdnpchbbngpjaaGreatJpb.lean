/- Plain states: the journal, the book, the device; what a commit, a truncation, a formatting, an append leave. -/
import Derived.Test.YtfdnpchbbngpjaaGreatJpa
import Derived.Test.YtfdnpchbbngpjaaGreatVst
namespace Go.Proofs.YtfdnpchbbngpjaaGreat

/-! ### the list of records, for the journal and for the model alike -/
structure JS where
  h : Nat
  first : Nat
  beg : Nat
  recs : List Rc
  comm : Nat
def JS.next (S : JS) : Nat := rend S.beg S.recs
def JS.en (S : JS) : Nat := rend S.beg (S.recs.take S.comm)
def JS.hd (S : JS) : Hd := ⟨S.h, S.first, S.beg, S.en⟩
def JS.last (S : JS) : Int := (S.first : Int) + S.recs.length - 1
def JS.durable (S : JS) : Int := (S.first : Int) + S.comm - 1
def JS.free (S : JS) (n : Nat) : Int := max (-1) (min ((n : Int) - ((S.next : Int) - S.beg) - 16) 65536)
def JS.append (S : JS) (n : Nat) (d : ByteArray) : Int × Nat × JS :=
  if 65536 < d.size then (0, 10, S) else if S.free n < (d.size : Int) then (0, 37, S) else ((S.first : Int) + S.recs.length, 0, { S with recs := S.recs ++ [(S.next, d)] })
def JS.commit (S : JS) : JS := { S with h := S.h + 1, comm := S.recs.length }
def JS.drop (S : JS) (k : Nat) : JS := ⟨S.h + 1, S.first + k, rend S.beg (S.recs.take k), S.recs.drop k, S.comm - k⟩
def JS.reopen (S : JS) : JS := { S with recs := S.recs.take S.comm }
/-- a list of records that fits an area of n bytes, its numbers below a bound -/
structure JS.wf (S : JS) (n c : Nat) : Prop where
  chain : Chain S.beg S.recs
  comm : S.comm ≤ S.recs.length
  room : S.next ≤ S.beg + n
  one : 1 ≤ S.first
  h : S.h ≤ c
  nums : S.first + S.recs.length ≤ c
  pos : S.next ≤ 16384 * c
theorem JS.wf.mono {S : JS} {n c d : Nat} (h : S.wf n c) (hcd : c ≤ d) : S.wf n d := ⟨h.chain, h.comm, h.room, h.one, by have := h.h; omega, by have := h.nums; omega, by have := h.pos; omega⟩
theorem chain_take {p : Nat} {l : List Rc} (h : Chain p l) (k : Nat) : Chain p (l.take k) := by
  rw [← List.take_append_drop k l] at h
  exact (chain_append.1 h).1
theorem chain_drop {p : Nat} {l : List Rc} (h : Chain p l) (k : Nat) : Chain (rend p (l.take k)) (l.drop k) := by
  rw [← List.take_append_drop k l] at h
  exact (chain_append.1 h).2
theorem rend_split (p : Nat) (l : List Rc) (k : Nat) : rend (rend p (l.take k)) (l.drop k) = rend p l := by
  rw [← rend_append, List.take_append_drop]
theorem rend_take_le {p : Nat} {l : List Rc} (h : Chain p l) (k : Nat) : rend p (l.take k) ≤ rend p l := by
  rw [← rend_split p l k]
  have := rend_ge (chain_drop h k)
  omega
theorem rend_ge' {p : Nat} {l : List Rc} (h : Chain p l) : p ≤ rend p l := by have := rend_ge h; omega
section
variable {S : JS} {n c : Nat}
theorem JS.wf.en_le (h : S.wf n c) : S.en ≤ S.next := rend_take_le h.chain _
theorem JS.wf.beg_le (h : S.wf n c) : S.beg ≤ S.en := rend_ge' (chain_take h.chain _)
theorem JS.wf.reopen (h : S.wf n c) : S.reopen.wf n c := by
  have h1 := h.en_le
  have h2 := h.room
  have h3 := h.pos
  have h4 := h.comm
  have h5 := h.nums
  refine ⟨chain_take h.chain _, ?_, ?_, h.one, h.h, ?_, ?_⟩
  · show S.comm ≤ (S.recs.take S.comm).length; rw [List.length_take]; omega
  · show S.en ≤ S.beg + n; omega
  · show S.first + (S.recs.take S.comm).length ≤ c; rw [List.length_take]; omega
  · show S.en ≤ 16384 * c; omega
theorem JS.wf.commit (h : S.wf n c) : S.commit.wf n (c + 1) :=
  ⟨h.chain, Nat.le_refl _, h.room, h.one, by have := h.h; show S.h + 1 ≤ c + 1; omega, by have := h.nums; show S.first + S.recs.length ≤ c + 1; omega, by have := h.pos; show S.next ≤ 16384 * (c + 1); omega⟩
theorem JS.next_drop (S : JS) (k : Nat) : (S.drop k).next = S.next := rend_split _ _ _
theorem JS.en_drop {S : JS} {k : Nat} (hk : k ≤ S.comm) : (S.drop k).en = S.en := by
  show rend (rend S.beg (S.recs.take k)) ((S.recs.drop k).take (S.comm - k)) = rend S.beg (S.recs.take S.comm)
  rw [← rend_append, ← List.drop_take]
  congr 1
  have := List.take_append_drop k (S.recs.take S.comm)
  rw [List.take_take, Nat.min_eq_left hk] at this
  exact this
theorem JS.wf.drop (h : S.wf n c) {k : Nat} (hk : k ≤ S.comm) : (S.drop k).wf n (c + 1) := by
  have h1 := h.comm
  have h2 := h.nums
  have h3 := h.pos
  have h4 := h.room
  have h5 := h.h
  have h6 := h.one
  have h7 := rend_ge' (chain_take h.chain k)
  refine ⟨chain_drop h.chain k, ?_, ?_, ?_, ?_, ?_, ?_⟩
  · show S.comm - k ≤ (S.recs.drop k).length; rw [List.length_drop]; omega
  · rw [S.next_drop]; show S.next ≤ rend S.beg (S.recs.take k) + n; omega
  · show 1 ≤ S.first + k; omega
  · show S.h + 1 ≤ c + 1; omega
  · show S.first + k + (S.recs.drop k).length ≤ c + 1; rw [List.length_drop]; omega
  · rw [S.next_drop]; omega
theorem JS.wf.append (h : S.wf n c) (hn : n ≤ 16384) (d : ByteArray) : (S.append n d).2.2.wf n (c + 1) := by
  have h1 := h.comm
  have h2 := h.nums
  have h3 := h.pos
  have h4 := h.room
  have h5 := h.h
  have h6 := h.one
  have h7 := rend_ge' h.chain
  unfold JS.append
  split
  · exact h.mono (by omega)
  · split
    · exact h.mono (by omega)
    · rename_i k1 k2
      have e : rend S.beg (S.recs ++ [(S.next, d)]) = S.next + 16 + d.size := rend_snoc _ _ _
      have hr : S.next + 16 + d.size ≤ S.beg + n := by
        unfold JS.free at k2
        unfold JS.next at *
        omega
      have hb : S.beg ≤ S.next := h7
      refine ⟨chain_append.2 ⟨h.chain, rfl, by show d.size ≤ 65536; omega, trivial⟩, ?_, ?_, h6, ?_, ?_, ?_⟩
      · show S.comm ≤ (S.recs ++ [(S.next, d)]).length; rw [List.length_append]; omega
      · show rend S.beg (S.recs ++ [(S.next, d)]) ≤ S.beg + n; rw [e]; exact hr
      · show S.h ≤ c + 1; omega
      · show S.first + (S.recs ++ [(S.next, d)]).length ≤ c + 1; rw [List.length_append]; simp; omega
      · show rend S.beg (S.recs ++ [(S.next, d)]) ≤ 16384 * (c + 1); rw [e]; omega
theorem JS.wf.hd_small (h : S.wf n c) (hc : c ≤ 4294967296) : S.hd.small := by
  have h1 := h.en_le
  have h2 := h.beg_le
  have h3 := h.pos
  have h4 := h.h
  have h5 := h.nums
  exact ⟨by show S.h < _; omega, by show S.first < _; omega, by show S.beg < _; omega, by show S.en < _; omega⟩
theorem JS.wf.hd_fits (h : S.wf n c) : hdFits S.hd (S.h % 2) n = true := by
  have h1 := h.en_le
  have h2 := h.beg_le
  have h3 := h.room
  unfold hdFits JS.hd
  simp
  omega
end

/-! ### the frames of the records that are not yet written -/
def puts (A : List UInt8) (k : Nat) : List Rc → List UInt8
  | [] => A
  | r :: t => puts (wr A r.1 (frameL k r.2.data.toList)) (k + 1) t
theorem puts_length (A : List UInt8) (k : Nat) (l : List Rc) : (puts A k l).length = A.length := by
  induction l generalizing A k with
  | nil => rfl
  | cons r t ih => unfold puts; rw [ih, wr_length]
theorem frame_size (k : Nat) (d : ByteArray) : (frameL k d.data.toList).length = 16 + d.size := by rw [frameL_length, Array.length_toList]; rfl
/-- the positions that are not between p and p + m stay -/
def Off (A B : List UInt8) (p m : Nat) : Prop := B.length = A.length ∧ ∀ i, i < A.length → (∀ j, j < m → (p + j) % A.length ≠ i) → B.getD i 0 = A.getD i 0
theorem Off.refl (A : List UInt8) (p m : Nat) : Off A A p m := ⟨rfl, fun _ _ _ => rfl⟩
theorem puts_off (A : List UInt8) (k p : Nat) (l : List Rc) (h : Chain p l) : Off A (puts A k l) p (rend p l - p) := by
  induction l generalizing A k p with
  | nil => exact Off.refl _ _ _
  | cons r t ih =>
    obtain ⟨h1, h2, h3⟩ := h
    subst h1
    have hge := rend_ge h3
    obtain ⟨e1, e2⟩ := ih (wr A r.1 (frameL k r.2.data.toList)) (k + 1) _ h3
    refine ⟨by unfold puts; rw [e1, wr_length], fun i hi hn => ?_⟩
    unfold puts
    rw [e2 i (by rw [wr_length]; exact hi) (fun j hj => ?_), wr_far _ _ _ _ (fun j hj => ?_)]
    · rw [frame_size] at hj
      exact hn j (by simp only [rend]; omega)
    · rw [wr_length, show r.1 + 16 + r.2.size + j = r.1 + (16 + r.2.size + j) from by omega]
      exact hn _ (by simp only [rend]; omega)
theorem Off.rd {A B : List UInt8} {p m q k : Nat} (h : Off A B p m) (h1 : q + k ≤ p) (h2 : p + m ≤ q + A.length) : rd B q k = rd A q k := rd_alike h.1 h1 h2 h.2
theorem Off.lies {A B : List UInt8} {p m q k : Nat} {l : List Rc} (h : Off A B p m) (hc : Chain q l) (h1 : rend q l ≤ p) (h2 : p + m ≤ q + A.length) (hl : Lies A k l) : Lies B k l :=
  lies_alike hc (fun x y hx hy => h.rd (by omega) (by omega)) hl
theorem puts_lies (A : List UInt8) (k p b : Nat) (l : List Rc) (h : Chain p l) (hb : b ≤ p) (hr : rend p l ≤ b + A.length) : Lies (puts A k l) k l := by
  induction l generalizing A k p with
  | nil => trivial
  | cons r t ih =>
    obtain ⟨h1, h2, h3⟩ := h
    subst h1
    have hge := rend_ge h3
    unfold puts
    have hW : (wr A r.1 (frameL k r.2.data.toList)).length = A.length := wr_length _ _ _
    refine ⟨?_, ih _ (k + 1) _ h3 (by omega) (by rw [hW]; exact hr)⟩
    unfold LieAt
    simp only [rend] at hr
    rw [(puts_off _ (k + 1) _ t h3).rd (by omega) (by rw [hW]; omega), ← frame_size k]
    exact rd_wr_same _ _ _ (by rw [frame_size]; omega)

/-! ### the model -/
structure BS where
  h0 : List UInt8
  h1 : List UInt8
  area : List UInt8
  s : JS
def BS.head (B : BS) (k : Nat) : List UInt8 := if k % 2 = 0 then B.h0 else B.h1
def BS.setHead (B : BS) (k : Nat) (l : List UInt8) : BS := if k % 2 = 0 then { B with h0 := l } else { B with h1 := l }
def BS.header (B : BS) (s : JS) : BS := BS.setHead { B with s := s } s.h (headT s.hd)
def BS.commit (B : BS) : BS := if B.s.comm = B.s.recs.length then B else BS.header { B with area := puts B.area (B.s.first + B.s.comm) (B.s.recs.drop B.s.comm) } B.s.commit
def BS.reopen (B : BS) : BS := { B with s := B.s.reopen }
def BS.append (B : BS) (d : ByteArray) : Int × Nat × BS := ((B.s.append B.area.length d).1, (B.s.append B.area.length d).2.1, { B with s := (B.s.append B.area.length d).2.2 })
def BS.blank (m : Nat) : BS := ⟨List.replicate 256 0, List.replicate 256 0, List.replicate (256 * m) 0, ⟨0, 1, 0, [], 0⟩⟩
end Go.Proofs.YtfdnpchbbngpjaaGreat
namespace Go.Proofs.YtfdnpchbbngpjaaGreat

def VS.sct (st : VS) (k : Nat) : List UInt8 := (st.content k).data.toList
def VS.area (st : VS) : List UInt8 := ((List.range (st.dur.length - 2)).map fun k => st.sct (2 + k)).flatten
theorem lastAt_size {ps : List (Nat × ByteArray)} {i : Nat} {d : ByteArray} (h : lastAt ps i = some d) (hp : ∀ p, p ∈ ps → p.2.size = 256) : d.size = 256 := by
  unfold lastAt at h
  rw [Option.map_eq_some_iff] at h
  obtain ⟨p, h1, rfl⟩ := h
  have := List.mem_of_find?_eq_some h1
  exact hp p (by simpa using this)
theorem VS.wf.content {st : VS} (h : st.wf) (k : Nat) : (st.content k).size = 256 := by
  unfold VS.content
  cases e : lastAt st.pend k with
  | none => exact at_size h.dur k
  | some d => exact lastAt_size e h.data
theorem VS.wf.sct {st : VS} (h : st.wf) (k : Nat) : (st.sct k).length = 256 := by
  have := h.content k
  unfold VS.sct
  rw [Array.length_toList]; exact this
theorem flat_length (f : Nat → List UInt8) (m : Nat) (h : ∀ k, k < m → (f k).length = 256) : ((List.range m).map f).flatten.length = 256 * m := by
  induction m with
  | zero => rfl
  | succ m ih =>
    rw [List.range_succ, List.map_append, List.flatten_append, List.length_append, ih (fun k _ => h k (by omega))]
    simp only [List.map_cons, List.map_nil, List.flatten_cons, List.flatten_nil, List.append_nil]
    rw [h m (by omega)]; omega
theorem flat_sec (f : Nat → List UInt8) (m : Nat) (h : ∀ k, k < m → (f k).length = 256) (k : Nat) (hk : k < m) : sec ((List.range m).map f).flatten k = f k := by
  induction m with
  | zero => omega
  | succ m ih =>
    have hl := flat_length f m (fun k _ => h k (by omega))
    rw [List.range_succ, List.map_append, List.flatten_append]
    simp only [List.map_cons, List.map_nil, List.flatten_cons, List.flatten_nil, List.append_nil]
    by_cases e : k < m
    · rw [← ih (fun k _ => h k (by omega)) e]
      unfold sec
      rw [List.drop_append_of_le_length (by rw [hl]; omega), List.take_append_of_le_length (by rw [List.length_drop, hl]; omega)]
    · obtain rfl : k = m := by omega
      unfold sec
      rw [← hl, List.drop_left, List.take_of_length_le (by rw [h _ hk]; exact Nat.le_refl _)]
theorem VS.wf.area {st : VS} (h : st.wf) : st.area.length = 256 * (st.dur.length - 2) := flat_length _ _ (fun _ _ => h.sct _)
theorem VS.wf.sec {st : VS} (h : st.wf) {k : Nat} (hk : k < st.dur.length - 2) : sec st.area k = st.sct (2 + k) := flat_sec (fun k => st.sct (2 + k)) _ (fun _ _ => h.sct _) k hk

/-- what is found on a device -/
def foundJ (h0 h1 A : List UInt8) : Option JS :=
  if (findHd h0 h1 A.length).2 then some ⟨(findHd h0 h1 A.length).1.num, (findHd h0 h1 A.length).1.first, (findHd h0 h1 A.length).1.beg, fr A (findHd h0 h1 A.length).1.en (findHd h0 h1 A.length).1.beg (findHd h0 h1 A.length).1.first,
    (fr A (findHd h0 h1 A.length).1.en (findHd h0 h1 A.length).1.beg (findHd h0 h1 A.length).1.first).length⟩ else none
def VS.found (st : VS) : Option JS := foundJ (st.sct 0) (st.sct 1) st.area

structure Inv (st : VS) (B : BS) (m c : Nat) : Prop where
  wf : st.wf
  up : st.down = false
  pend : st.pend = []
  len : st.dur.length = m + 2
  m1 : 1 ≤ m
  m2 : m ≤ 64
  h0 : st.sct 0 = B.h0
  h1 : st.sct 1 = B.h1
  area : st.area = B.area
  s : B.s.wf (256 * m) c
  lies : Lies B.area B.s.first (B.s.recs.take B.s.comm)
  cur : readHd (B.head B.s.h) (B.s.h % 2) (256 * m) = (B.s.hd, true)
  find : findHd B.h0 B.h1 (256 * m) = (B.s.hd, true)
  small : c ≤ 1048576
section
variable {st st' : VS} {B : BS} {m c : Nat}
theorem Inv.alen (h : Inv st B m c) : B.area.length = 256 * m := by rw [← h.area, h.wf.area, h.len]; rfl
theorem Inv.found (h : Inv st B m c) : st.found = some B.s.reopen := by
  have hr := h.s.reopen
  have e : fr B.area B.s.en B.s.beg B.s.first = B.s.recs.take B.s.comm := fr_all hr.chain h.lies (by
    have h1 := hr.nums
    have h2 := h.small
    have h3 : B.s.reopen.recs.length = (B.s.recs.take B.s.comm).length := rfl
    have h4 : B.s.reopen.first = B.s.first := rfl
    omega)
  have hl : (B.s.recs.take B.s.comm).length = B.s.comm := by rw [List.length_take]; have := h.s.comm; omega
  unfold VS.found foundJ
  rw [h.h0, h.h1, h.area, h.alen, h.find]
  simp only [if_true]
  unfold JS.hd
  simp only
  rw [e, hl]
  rfl
theorem Inv.reopen (h : Inv st B m c) : Inv st B.reopen m c := by
  have hl : B.s.reopen.recs.take B.s.reopen.comm = B.s.recs.take B.s.comm := by show (B.s.recs.take B.s.comm).take B.s.comm = _; rw [List.take_take, Nat.min_self]
  have he : B.s.reopen.hd = B.s.hd := by unfold JS.hd JS.en; rw [hl]; rfl
  refine ⟨h.wf, h.up, h.pend, h.len, h.m1, h.m2, h.h0, h.h1, h.area, h.s.reopen, ?_, ?_, ?_, h.small⟩
  · show Lies B.area B.s.first (B.s.reopen.recs.take B.s.reopen.comm); rw [hl]; exact h.lies
  · show readHd (B.head B.s.h) (B.s.h % 2) (256 * m) = (B.s.reopen.hd, true); rw [he]; exact h.cur
  · show findHd B.h0 B.h1 (256 * m) = (B.s.reopen.hd, true); rw [he]; exact h.find
end

/-! ### a header is written -/
theorem head_find {B : BS} {n : Nat} {s : JS} (hcur : readHd (B.head B.s.h) (B.s.h % 2) n = (B.s.hd, true)) (hh : s.h = B.s.h + 1) {t : List UInt8} (ht : readHd t (s.h % 2) n = (s.hd, true)) (A : List UInt8) :
    readHd ((BS.setHead { B with area := A, s := s } s.h t).head s.h) (s.h % 2) n = (s.hd, true) ∧ findHd (BS.setHead { B with area := A, s := s } s.h t).h0 (BS.setHead { B with area := A, s := s } s.h t).h1 n = (s.hd, true) := by
  have e1 : s.hd.num = s.h := rfl
  have e2 : B.s.hd.num = B.s.h := rfl
  rcases Nat.mod_two_eq_zero_or_one s.h with hp | hp
  · have hq : B.s.h % 2 = 1 := by omega
    have hcur' : readHd B.h1 1 n = (B.s.hd, true) := by unfold BS.head at hcur; rw [if_neg (by omega), hq] at hcur; exact hcur
    rw [hp] at ht
    unfold BS.setHead BS.head
    rw [if_pos hp, if_pos hp, hp]
    refine ⟨ht, ?_⟩
    unfold findHd
    simp only
    rw [hcur', ht]
    simp only
    rw [e1, e2, hh]
    simp
    omega
  · have hq : B.s.h % 2 = 0 := by omega
    have hcur' : readHd B.h0 0 n = (B.s.hd, true) := by unfold BS.head at hcur; rw [if_pos hq, hq] at hcur; exact hcur
    rw [hp] at ht
    unfold BS.setHead BS.head
    rw [if_neg (by omega), if_neg (by omega), hp]
    refine ⟨ht, ?_⟩
    unfold findHd
    simp only
    rw [hcur', ht]
    simp only
    rw [e1, e2, hh]
    simp
/-- only the first 64 bytes of a header's sector count -/
theorem readHd_64 {s t : List UInt8} (h : s.take 64 = t.take 64) (k n : Nat) : readHd s k n = readHd t k n := by
  have tk : ∀ a, a ≤ 64 → s.take a = t.take a := fun a ha => by
    have := congrArg (List.take a) h
    rwa [List.take_take, List.take_take, Nat.min_eq_left ha] at this
  have fd : ∀ a b, a + b ≤ 64 → field s a b = field t a b := fun a b hab => by
    unfold field
    have := congrArg (List.drop a) (tk (a + b) hab)
    rw [List.drop_take, List.drop_take, show a + b - a = b from by omega] at this
    rw [this]
  have e1 : hdOf s = hdOf t := by unfold hdOf; rw [fd 4 8 (by omega), fd 12 8 (by omega), fd 20 8 (by omega), fd 28 8 (by omega)]
  have e2 : hdGood s = hdGood t := by unfold hdGood; rw [tk 4 (by omega), tk 36 (by omega), fd 36 4 (by omega)]
  unfold readHd
  rw [e1, e2]
theorem surv_64 (old new : ByteArray) (ho : old.size = 256) (hn : new.size = 256) (x : Nat) : (surv old new x).data.toList.take 64 = old.data.toList.take 64 ∨ (surv old new x).data.toList.take 64 = new.data.toList.take 64 := by
  have h1 : old.data.toList.length = 256 := by rw [Array.length_toList]; exact ho
  have h2 : new.data.toList.length = 256 := by rw [Array.length_toList]; exact hn
  have hm : 64 ≤ 64 * (x / 4 % 3 + 1) := by omega
  unfold surv
  simp only
  split
  · exact .inl rfl
  · split
    · exact .inr rfl
    · split
      · right
        show ((new.data.toList.take _ ++ _).toArray.toList).take 64 = _
        rw [List.toList_toArray, List.take_append_of_le_length (by rw [List.length_take]; omega), List.take_take, Nat.min_eq_left hm]
      · left
        show ((old.data.toList.take _ ++ _).toArray.toList).take 64 = _
        rw [List.toList_toArray, List.take_append_of_le_length (by rw [List.length_take]; omega), List.take_take, Nat.min_eq_left hm]
theorem mix_byte (a b : List UInt8) (n i : Nat) (ha : a.length = 256) (hn : n ≤ 256) : (a.take n ++ b.drop n).getD i 0 = a.getD i 0 ∨ (a.take n ++ b.drop n).getD i 0 = b.getD i 0 := by
  have hl : (a.take n).length = n := by rw [List.length_take, ha]; omega
  by_cases h : i < n
  · left
    rw [List.getD_eq_getElem?_getD, List.getElem?_append_left (by rw [hl]; exact h), List.getElem?_take_of_lt h, ← List.getD_eq_getElem?_getD]
  · right
    rw [List.getD_eq_getElem?_getD, List.getElem?_append_right (by rw [hl]; omega), List.getElem?_drop, ← List.getD_eq_getElem?_getD, hl, show n + (i - n) = i from by omega]
theorem surv_byte (old new : ByteArray) (ho : old.size = 256) (hn : new.size = 256) (x i : Nat) : (surv old new x).data.toList.getD i 0 = old.data.toList.getD i 0 ∨ (surv old new x).data.toList.getD i 0 = new.data.toList.getD i 0 := by
  have h1 : old.data.toList.length = 256 := by rw [Array.length_toList]; exact ho
  have h2 : new.data.toList.length = 256 := by rw [Array.length_toList]; exact hn
  have hm : 64 * (x / 4 % 3 + 1) ≤ 256 := by omega
  unfold surv
  simp only
  split
  · exact .inl rfl
  · split
    · exact .inr rfl
    · split
      · show ((new.data.toList.take _ ++ _).toArray.toList).getD i 0 = _ ∨ ((new.data.toList.take _ ++ _).toArray.toList).getD i 0 = _
        rw [List.toList_toArray]
        exact (mix_byte _ _ _ i h2 hm).symm
      · show ((old.data.toList.take _ ++ _).toArray.toList).getD i 0 = _ ∨ ((old.data.toList.take _ ++ _).toArray.toList).getD i 0 = _
        rw [List.toList_toArray]
        exact mix_byte _ _ _ i h1 hm

/-! ### many writes, a barrier; a header and a barrier -/
def VS.writes (st : VS) : List (Nat × ByteArray) → Nat × VS
  | [] => (0, st)
  | p :: r => if (st.write (p.1 : Int) p.2).1 ≠ 0 then st.write (p.1 : Int) p.2 else (st.write (p.1 : Int) p.2).2.writes r
def VS.flushL (st : VS) (L : List (Nat × ByteArray)) : Nat × VS := if (st.writes L).1 ≠ 0 then st.writes L else (st.writes L).2.barrier
def bytesOf (l : List UInt8) : ByteArray := ⟨l.toArray⟩
def VS.putHd (st : VS) (h : Hd) : Nat × VS :=
  if (st.write ((h.num % 2 : Nat) : Int) (bytesOf (headT h))).1 ≠ 0 then st.write ((h.num % 2 : Nat) : Int) (bytesOf (headT h)) else (st.write ((h.num % 2 : Nat) : Int) (bytesOf (headT h))).2.barrier
def VS.commitV (st : VS) (L : List (Nat × ByteArray)) (h : Hd) : Nat × VS := if (st.flushL L).1 ≠ 0 then st.flushL L else (st.flushL L).2.putHd h
theorem bytesOf_list (l : List UInt8) : (bytesOf l).data.toList = l := by simp [bytesOf]
theorem bytesOf_size (l : List UInt8) : (bytesOf l).size = l.length := List.size_toArray
theorem hdT_size (h : Hd) : (bytesOf (headT h)).size = 256 := by rw [bytesOf_size, headT_length]

/-- a tick, in two cases -/
theorem VS.tick_two (st : VS) : (st.tick.1 = false ∧ st.tick.2.down = st.down) ∨ (st.tick.1 = true ∧ st.tick.2.down = true) := by
  unfold VS.tick
  split
  · exact .inl ⟨rfl, rfl⟩
  · exact .inr ⟨rfl, rfl⟩
  · exact .inl ⟨rfl, rfl⟩
theorem VS.write_two {st : VS} (hd : st.down = false) {k : Nat} (hk : k < st.dur.length) {d : ByteArray} (hs : d.size = 256) (hr : st.pend.length < 4096) :
    ((st.write (k : Int) d).1 = 0 ∧ (st.write (k : Int) d).2.down = false ∨ (st.write (k : Int) d).1 = 36 ∧ (st.write (k : Int) d).2.down = true) ∧ (st.write (k : Int) d).2.dur = st.dur ∧ (st.write (k : Int) d).2.pend = st.pend ++ [(k, d)] := by
  have hi : inR (k : Int) st.dur.length = true := inR_iff.2 ⟨by omega, by omega⟩
  unfold VS.write
  rw [if_neg (by rw [hd]; decide), if_neg (by rw [hi]; decide), if_neg (by rw [hs]; decide), if_neg (by omega)]
  simp only
  obtain ⟨e1, e2⟩ := ({ st with pend := st.pend ++ [((k : Int).toNat, d)] } : VS).tick_dur
  refine ⟨?_, e1, by rw [e2]; simp⟩
  rcases ({ st with pend := st.pend ++ [((k : Int).toNat, d)] } : VS).tick_two with ⟨h1, h2⟩ | ⟨h1, h2⟩
  · left; rw [h1]; exact ⟨rfl, h2.trans hd⟩
  · right; rw [h1]; exact ⟨rfl, h2⟩
theorem VS.barrier_two {st : VS} (hd : st.down = false) :
    (st.barrier.1 = 0 ∧ st.barrier.2.down = false ∧ st.barrier.2.dur = flush st.pend st.dur ∧ st.barrier.2.pend = []) ∨ (st.barrier.1 = 36 ∧ st.barrier.2.down = true ∧ st.barrier.2.dur = st.dur ∧ st.barrier.2.pend = st.pend) := by
  obtain ⟨e1, e2⟩ := st.tick_dur
  unfold VS.barrier
  rw [if_neg (by rw [hd]; decide)]
  rcases st.tick_two with ⟨h1, h2⟩ | ⟨h1, h2⟩
  · left; simp only; rw [h1, e1, e2]; exact ⟨rfl, h2.trans hd, rfl, rfl⟩
  · right; simp only; rw [h1]; exact ⟨rfl, h2, e1, e2⟩
theorem VS.wf.writes {st : VS} (h : st.wf) (L : List (Nat × ByteArray)) : (st.writes L).2.wf := by
  induction L generalizing st with
  | nil => exact h
  | cons p r ih =>
    unfold VS.writes
    split
    · exact h.write _ _
    · exact ih (h.write _ _)
theorem VS.wf.flushL {st : VS} (h : st.wf) (L : List (Nat × ByteArray)) : (st.flushL L).2.wf := by
  unfold VS.flushL
  split
  · exact h.writes L
  · exact (h.writes L).barrier
theorem VS.wf.putHd {st : VS} (h : st.wf) (x : Hd) : (st.putHd x).2.wf := by
  unfold VS.putHd
  split
  · exact h.write _ _
  · exact (h.write _ _).barrier
theorem VS.wf.commitV {st : VS} (h : st.wf) (L : List (Nat × ByteArray)) (x : Hd) : (st.commitV L x).2.wf := by
  unfold VS.commitV
  split
  · exact h.flushL L
  · exact (h.flushL L).putHd x
theorem VS.writes_two {st : VS} (L : List (Nat × ByteArray)) (hd : st.down = false) (hk : ∀ p, p ∈ L → p.1 < st.dur.length ∧ p.2.size = 256) (hr : st.pend.length + L.length ≤ 4096) :
    ((st.writes L).1 = 0 ∧ (st.writes L).2.down = false ∧ (st.writes L).2.dur = st.dur ∧ (st.writes L).2.pend = st.pend ++ L) ∨
    ((st.writes L).1 = 36 ∧ (st.writes L).2.down = true ∧ (st.writes L).2.dur = st.dur ∧ ∃ i, (st.writes L).2.pend = st.pend ++ L.take i) := by
  induction L generalizing st with
  | nil => exact .inl ⟨rfl, hd, rfl, (List.append_nil _).symm⟩
  | cons p r ih =>
    obtain ⟨h1, h2⟩ := hk p (by simp)
    simp only [List.length_cons] at hr
    obtain ⟨hw, e1, e2⟩ := VS.write_two hd h1 h2 (by omega)
    unfold VS.writes
    rcases hw with ⟨w1, w2⟩ | ⟨w1, w2⟩
    · rw [if_neg (by rw [w1]; decide)]
      rcases ih (st := (st.write (p.1 : Int) p.2).2) w2 (fun q hq => by rw [e1]; exact hk q (by simp [hq])) (by rw [e2]; simp; omega) with ⟨a, b, c, d⟩ | ⟨a, b, c, i, d⟩
      · exact .inl ⟨a, b, c.trans e1, by rw [d, e2]; simp⟩
      · exact .inr ⟨a, b, c.trans e1, i + 1, by rw [d, e2]; simp⟩
    · rw [if_pos (by rw [w1]; decide)]
      exact .inr ⟨w1, w2, e1, 1, by rw [e2]; simp⟩
theorem VS.flushL_two {st : VS} (L : List (Nat × ByteArray)) (hd : st.down = false) (hp : st.pend = []) (hk : ∀ p, p ∈ L → p.1 < st.dur.length ∧ p.2.size = 256) (hr : L.length ≤ 4096) :
    ((st.flushL L).1 = 0 ∧ (st.flushL L).2.down = false ∧ (st.flushL L).2.dur = flush L st.dur ∧ (st.flushL L).2.pend = []) ∨
    ((st.flushL L).1 = 36 ∧ (st.flushL L).2.down = true ∧ (st.flushL L).2.dur = st.dur ∧ ∃ i, (st.flushL L).2.pend = L.take i) := by
  unfold VS.flushL
  rcases VS.writes_two L hd hk (by rw [hp]; simpa using hr) with ⟨a, b, c, d⟩ | ⟨a, b, c, i, d⟩
  · rw [if_neg (by rw [a]; decide)]
    rw [hp, List.nil_append] at d
    rcases VS.barrier_two b with ⟨x1, x2, x3, x4⟩ | ⟨x1, x2, x3, x4⟩
    · exact .inl ⟨x1, x2, by rw [x3, c, d], x4⟩
    · exact .inr ⟨x1, x2, x3.trans c, L.length, by rw [x4, d, List.take_length]⟩
  · rw [if_pos (by rw [a]; decide)]
    rw [hp, List.nil_append] at d
    exact .inr ⟨a, b, c, i, d⟩
theorem VS.putHd_two {st : VS} (h : Hd) (hd : st.down = false) (hp : st.pend = []) (hl : 2 ≤ st.dur.length) :
    ((st.putHd h).1 = 0 ∧ (st.putHd h).2.down = false ∧ (st.putHd h).2.dur = st.dur.set (h.num % 2) (bytesOf (headT h)) ∧ (st.putHd h).2.pend = []) ∨
    ((st.putHd h).1 = 36 ∧ (st.putHd h).2.down = true ∧ (st.putHd h).2.dur = st.dur ∧ (st.putHd h).2.pend = [(h.num % 2, bytesOf (headT h))]) := by
  obtain ⟨hw, e1, e2⟩ := VS.write_two hd (k := h.num % 2) (by omega) (hdT_size h) (by rw [hp]; decide)
  rw [hp, List.nil_append] at e2
  unfold VS.putHd
  rcases hw with ⟨w1, w2⟩ | ⟨w1, w2⟩
  · rw [if_neg (by rw [w1]; decide)]
    rcases VS.barrier_two w2 with ⟨x1, x2, x3, x4⟩ | ⟨x1, x2, x3, x4⟩
    · exact .inl ⟨x1, x2, by rw [x3, e1, e2]; rfl, x4⟩
    · exact .inr ⟨x1, x2, x3.trans e1, x4.trans e2⟩
  · rw [if_pos (by rw [w1]; decide)]
    exact .inr ⟨w1, w2, e1, e2⟩
end Go.Proofs.YtfdnpchbbngpjaaGreat
namespace Go.Proofs.YtfdnpchbbngpjaaGreat

theorem still_content {st : VS} (hp : st.pend = []) (k : Nat) : st.content k = st.dur.getD k zb := by
  unfold VS.content lastAt VS.at_
  rw [hp]; rfl
theorem sct_of {st : VS} (hp : st.pend = []) (k : Nat) : st.sct k = (st.dur.getD k zb).data.toList := by unfold VS.sct; rw [still_content hp]
theorem getD_set (ds : List ByteArray) (i k : Nat) (d : ByteArray) : (ds.set i d).getD k zb = if i = k ∧ k < ds.length then d else ds.getD k zb := by
  rw [List.getD_eq_getElem?_getD, List.getElem?_set, List.getD_eq_getElem?_getD]
  by_cases h : i = k
  · subst h
    by_cases h2 : i < ds.length
    · rw [if_pos rfl, if_pos h2, if_pos ⟨rfl, h2⟩]; rfl
    · rw [if_pos rfl, if_neg h2, if_neg (fun h => h2 h.2), List.getElem?_eq_none (by omega)]
  · rw [if_neg h, if_neg (fun h' => h h'.1)]
/-- what the ring's writes must be: each is a sector of the new area; where none is, the area stays -/
structure RingOK (A A' : List UInt8) (m : Nat) (L : List (Nat × ByteArray)) : Prop where
  at_ : ∀ p, p ∈ L → 2 ≤ p.1 ∧ p.1 < m + 2 ∧ p.2.data.toList = sec A' (p.1 - 2)
  rest : ∀ k, k < m → (2 + k) ∉ L.map (·.1) → sec A' k = sec A k
  alen : A.length = 256 * m
  blen : A'.length = 256 * m
  few : L.length ≤ m
theorem RingOK.size {A A' : List UInt8} {m : Nat} {L : List (Nat × ByteArray)} (h : RingOK A A' m L) {p : Nat × ByteArray} (hp : p ∈ L) : p.2.size = 256 := by
  obtain ⟨h1, h2, h3⟩ := h.at_ p hp
  have := sec_length h.blen (show p.1 - 2 < m by omega)
  rw [← h3, Array.length_toList] at this
  exact this
theorem flush_get (L : List (Nat × ByteArray)) (f : Nat → List UInt8) (ds : List ByteArray) (h : ∀ p, p ∈ L → p.1 < ds.length ∧ p.2.data.toList = f p.1) (k : Nat) :
    ((flush L ds).getD k zb).data.toList = if k ∈ L.map (·.1) then f k else (ds.getD k zb).data.toList := by
  unfold flush
  induction L generalizing ds with
  | nil => simp
  | cons p r ih =>
    obtain ⟨h1, h2⟩ := h p (by simp)
    rw [List.foldl_cons, ih _ (fun q hq => by rw [List.length_set]; exact h q (by simp [hq])), getD_set]
    by_cases hk : k ∈ r.map (·.1)
    · rw [if_pos hk, if_pos (by rw [List.map_cons]; exact List.mem_cons_of_mem _ hk)]
    · rw [if_neg hk]
      by_cases e : p.1 = k
      · subst e
        rw [if_pos ⟨rfl, h1⟩, if_pos (by rw [List.map_cons]; exact List.mem_cons_self), h2]
      · rw [if_neg (fun h => e h.1), if_neg (by rw [List.map_cons, List.mem_cons]; rintro (h | h); exact e h.symm; exact hk h)]
theorem settle_byte (ps : List (Nat × ByteArray)) (cs : List UInt8) (ds : List ByteArray) (hd : ∀ d, d ∈ ds → d.size = 256) (hp : ∀ p, p ∈ ps → p.2.size = 256) (k i : Nat) :
    ((settle ps cs ds).getD k zb).data.toList.getD i 0 = (ds.getD k zb).data.toList.getD i 0 ∨ ∃ p, p ∈ ps ∧ p.1 = k ∧ ((settle ps cs ds).getD k zb).data.toList.getD i 0 = p.2.data.toList.getD i 0 := by
  induction ps generalizing cs ds with
  | nil => exact .inl rfl
  | cons p r ih =>
    have hs := surv_size (at_size hd p.1) (hp p (by simp)) (cs.headD 0).toNat
    unfold settle
    rcases ih cs.tail (ds.set p.1 (surv (ds.getD p.1 zb) p.2 (cs.headD 0).toNat)) (set_sizes hd _ hs) (fun q hq => hp q (by simp [hq])) with h | ⟨q, h1, h2, h3⟩
    · rw [h, getD_set]
      split
      · rename_i e
        obtain ⟨rfl, _⟩ := e
        rcases surv_byte _ _ (at_size hd p.1) (hp p (by simp)) (cs.headD 0).toNat i with h' | h'
        · exact .inl h'
        · exact .inr ⟨p, by simp, rfl, h'⟩
      · exact .inl rfl
    · exact .inr ⟨q, by simp [h1], h2, h3⟩

section
variable {st st' : VS} {B : BS} {m c : Nat}
/-- the device as the model's, from its sectors -/
theorem Inv.mk_still {S : JS} (hw : st'.wf) (hu : st'.down = false) (hp : st'.pend = []) (hl : st'.dur.length = m + 2) (h1 : 1 ≤ m) (h2 : m ≤ 64) (hs : S.wf (256 * m) c) (hc : c ≤ 1048576)
    (hlie : Lies st'.area S.first (S.recs.take S.comm)) (hcur : readHd ((⟨st'.sct 0, st'.sct 1, st'.area, S⟩ : BS).head S.h) (S.h % 2) (256 * m) = (S.hd, true)) (hf : findHd (st'.sct 0) (st'.sct 1) (256 * m) = (S.hd, true)) :
    Inv st' ⟨st'.sct 0, st'.sct 1, st'.area, S⟩ m c := ⟨hw, hu, hp, hl, h1, h2, rfl, rfl, rfl, hs, hlie, hcur, hf, hc⟩
theorem Inv.same {B' : BS} (h : Inv st B m c) (e0 : B'.h0 = B.h0) (e1 : B'.h1 = B.h1) (e2 : B'.area = B.area) (e3 : B'.s = B.s) : B' = B := by
  cases B; cases B'; simp at *; exact ⟨e0, e1, e2, e3⟩
theorem area_of (hw : st.wf) {A : List UInt8} (hl : st.dur.length = m + 2) (hA : A.length = 256 * m) (h : ∀ k, k < m → st.sct (2 + k) = sec A k) : st.area = A := by
  refine area_ext (m := m) (by rw [hw.area, hl]; rfl) hA (fun k hk => ?_)
  rw [hw.sec (by rw [hl]; omega)]
  exact h k hk
theorem Inv.sct (h : Inv st B m c) {k : Nat} (hk : k < m) : st.sct (2 + k) = sec B.area k := by
  rw [← h.area, h.wf.sec (by rw [h.len]; omega)]
/-- behind the barrier of the frames -/
structure Flushed (st : VS) (B : BS) (A' : List UInt8) (m c : Nat) : Prop where
  wf : st.wf
  up : st.down = false
  pend : st.pend = []
  len : st.dur.length = m + 2
  m1 : 1 ≤ m
  m2 : m ≤ 64
  h0 : st.sct 0 = B.h0
  h1 : st.sct 1 = B.h1
  area : st.area = A'
  alen : A'.length = 256 * m
  s : B.s.wf (256 * m) c
  cur : readHd (B.head B.s.h) (B.s.h % 2) (256 * m) = (B.s.hd, true)
  find : findHd B.h0 B.h1 (256 * m) = (B.s.hd, true)
  old : Lies A' B.s.first (B.s.recs.take B.s.comm)
  small : c + 1 ≤ 1048576
theorem Inv.flushed0 (h : Inv st B m c) (hc : c + 1 ≤ 1048576) : Flushed st B B.area m c :=
  ⟨h.wf, h.up, h.pend, h.len, h.m1, h.m2, h.h0, h.h1, h.area, h.alen, h.s, h.cur, h.find, h.lies, hc⟩

/-- the new header is durable, or not, or it is broken off -/
theorem Flushed.put {A' : List UInt8} (h : Flushed st B A' m c) {s : JS} (hs : s.wf (256 * m) (c + 1)) (hh : s.h = B.s.h + 1) (hl : Lies A' s.first (s.recs.take s.comm)) :
    ((st.putHd s.hd).1 = 0 ∧ Inv (st.putHd s.hd).2 (BS.header { B with area := A' } s) m (c + 1)) ∨
    ((st.putHd s.hd).1 = 36 ∧ (st.putHd s.hd).2.down = true ∧ (st.putHd s.hd).2.wf ∧ ∀ cs, ∃ S, (S = B.s.reopen ∨ S = s) ∧ Inv ((st.putHd s.hd).2.start cs) ⟨((st.putHd s.hd).2.start cs).sct 0, ((st.putHd s.hd).2.start cs).sct 1, ((st.putHd s.hd).2.start cs).area, S⟩ m (c + 1)) := by
  have hsm := hs.hd_small (by have := h.small; omega)
  have hnew : readHd (headT s.hd) (s.h % 2) (256 * m) = (s.hd, true) := by rw [readHd_headT hsm, hs.hd_fits]
  have hk2 : s.h % 2 < 2 := Nat.mod_lt _ (by decide)
  have hw' := h.wf.putHd s.hd
  have hnum : s.hd.num = s.h := rfl
  -- the sectors behind a write of t to the header's sector
  have sectors : ∀ (st2 : VS) (t : ByteArray), st2.pend = [] → st2.dur = st.dur.set (s.h % 2) t → st2.wf →
      st2.sct 0 = (BS.setHead { B with area := A', s := s } s.h t.data.toList).h0 ∧ st2.sct 1 = (BS.setHead { B with area := A', s := s } s.h t.data.toList).h1 ∧ st2.area = A' := by
    intro st2 t p2 d2 w2
    have get : ∀ k, st2.sct k = if s.h % 2 = k ∧ k < st.dur.length then t.data.toList else st.sct k := by
      intro k
      rw [sct_of p2, d2, getD_set]
      split
      · rfl
      · rw [sct_of h.pend]
    refine ⟨?_, ?_, ?_⟩
    · rw [get, h.h0]
      unfold BS.setHead
      rcases Nat.mod_two_eq_zero_or_one s.h with hp | hp
      · rw [if_pos ⟨hp, by rw [h.len]; omega⟩, if_pos hp]
      · rw [if_neg (by omega), if_neg (by omega)]
    · rw [get, h.h1]
      unfold BS.setHead
      rcases Nat.mod_two_eq_zero_or_one s.h with hp | hp
      · rw [if_neg (by omega), if_pos hp]
      · rw [if_pos ⟨hp, by rw [h.len]; omega⟩, if_neg (by omega)]
    · refine area_of w2 (by rw [d2, List.length_set, h.len]) h.alen (fun k hk => ?_)
      rw [get, if_neg (by omega), ← h.area, h.wf.sec (by rw [h.len]; omega)]
  rcases VS.putHd_two s.hd h.up h.pend (by rw [h.len]; omega) with ⟨a, b, d, p⟩ | ⟨a, b, d, p⟩
  · left
    rw [hnum] at d
    refine ⟨a, ?_⟩
    obtain ⟨e0, e1, e2⟩ := sectors _ _ p d hw'
    rw [bytesOf_list] at e0 e1
    obtain ⟨hc1, hc2⟩ := head_find h.cur hh hnew A'
    have hs' : (BS.header { B with area := A' } s).s = s := by unfold BS.header BS.setHead; split <;> rfl
    have ha' : (BS.header { B with area := A' } s).area = A' := by unfold BS.header BS.setHead; split <;> rfl
    exact ⟨hw', b, p, by rw [d, List.length_set, h.len], h.m1, h.m2, e0, e1, e2.trans ha'.symm, by rw [hs']; exact hs, by rw [hs', ha']; exact hl, by rw [hs']; exact hc1, by rw [hs']; exact hc2, h.small⟩
  · right
    rw [hnum] at p
    refine ⟨a, b, hw', fun cs => ?_⟩
    have hst : (st.putHd s.hd).2.start cs = ⟨settle [(s.h % 2, bytesOf (headT s.hd))] cs st.dur, [], none, false⟩ := by
      unfold VS.start
      rw [if_pos b, p, d]
    have hw2 := hw'.start cs
    rw [hst] at hw2 ⊢
    have hdur : settle [(s.h % 2, bytesOf (headT s.hd))] cs st.dur = st.dur.set (s.h % 2) (surv (st.dur.getD (s.h % 2) zb) (bytesOf (headT s.hd)) (cs.headD 0).toNat) := rfl
    obtain ⟨e0, e1, e2⟩ := sectors ⟨settle [(s.h % 2, bytesOf (headT s.hd))] cs st.dur, [], none, false⟩ _ rfl hdur hw2
    have hlen2 : (settle [(s.h % 2, bytesOf (headT s.hd))] cs st.dur).length = m + 2 := by rw [settle_len, h.len]
    have h64 := surv_64 (st.dur.getD (s.h % 2) zb) (bytesOf (headT s.hd)) (at_size h.wf.dur _) (hdT_size _) (cs.headD 0).toNat
    rcases h64 with h64 | h64
    · -- the old header
      refine ⟨B.s.reopen, .inl rfl, ?_⟩
      have hre := h.s.reopen
      have hl' : B.s.reopen.recs.take B.s.reopen.comm = B.s.recs.take B.s.comm := by show (B.s.recs.take B.s.comm).take B.s.comm = _; rw [List.take_take, Nat.min_self]
      have he : B.s.reopen.hd = B.s.hd := by unfold JS.hd JS.en; rw [hl']; rfl
      have hold : ∀ j n, readHd (surv (st.dur.getD (s.h % 2) zb) (bytesOf (headT s.hd)) (cs.headD 0).toNat).data.toList j n = readHd (st.sct (s.h % 2)) j n := fun j n => by
        rw [sct_of h.pend]; exact readHd_64 h64 j n
      refine Inv.mk_still hw2 rfl rfl hlen2 h.m1 h.m2 (hre.mono (by omega)) h.small ?_ ?_ ?_
      · rw [e2, hl']; exact h.old
      · rw [he]
        show readHd (if B.s.h % 2 = 0 then _ else _) (B.s.h % 2) (256 * m) = _
        rw [e0, e1]
        have hc := h.cur
        unfold BS.head at hc
        unfold BS.setHead
        rcases Nat.mod_two_eq_zero_or_one s.h with hp | hp
        · rw [if_pos hp, if_neg (by omega)]
          rw [if_neg (by omega)] at hc
          exact hc
        · rw [if_neg (show ¬ s.h % 2 = 0 by omega), if_pos (show B.s.h % 2 = 0 by omega)]
          rw [if_pos (show B.s.h % 2 = 0 by omega)] at hc
          exact hc
      · rw [he, e0, e1, ← h.find]
        unfold BS.setHead
        rcases Nat.mod_two_eq_zero_or_one s.h with hp | hp
        · rw [if_pos hp]
          have := hold 0 (256 * m)
          rw [hp, h.h0] at this
          unfold findHd
          simp only
          rw [hp, this]
        · rw [if_neg (by omega)]
          have := hold 1 (256 * m)
          rw [hp, h.h1] at this
          unfold findHd
          simp only
          rw [hp, this]
    · refine ⟨s, .inr rfl, ?_⟩
      have hr : readHd (surv (st.dur.getD (s.h % 2) zb) (bytesOf (headT s.hd)) (cs.headD 0).toNat).data.toList (s.h % 2) (256 * m) = (s.hd, true) := by
        rw [readHd_64 h64, bytesOf_list]; exact hnew
      obtain ⟨hc1, hc2⟩ := head_find h.cur hh hr A'
      refine Inv.mk_still hw2 rfl rfl hlen2 h.m1 h.m2 hs h.small ?_ ?_ ?_
      · rw [e2]; exact hl
      · show readHd (if s.h % 2 = 0 then _ else _) (s.h % 2) (256 * m) = _
        rw [e0, e1]; exact hc1
      · rw [e0, e1]; exact hc2
end
end Go.Proofs.YtfdnpchbbngpjaaGreat
namespace Go.Proofs.YtfdnpchbbngpjaaGreat

section
variable {st : VS} {B : BS} {m c : Nat}
theorem JS.commit_en (S : JS) : S.commit.en = S.next := by
  show rend S.beg (S.recs.take S.recs.length) = rend S.beg S.recs
  rw [List.take_length]
/-- the area with the frames that are not yet written -/
def BS.put (B : BS) : List UInt8 := puts B.area (B.s.first + B.s.comm) (B.s.recs.drop B.s.comm)
theorem Inv.put_off (h : Inv st B m c) : Off B.area B.put B.s.en (B.s.next - B.s.en) := by
  have := puts_off B.area (B.s.first + B.s.comm) B.s.en (B.s.recs.drop B.s.comm) (chain_drop h.s.chain _)
  have e : rend B.s.en (B.s.recs.drop B.s.comm) = B.s.next := rend_split _ _ _
  rw [e] at this
  exact this
theorem Inv.old_off (h : Inv st B m c) {A' : List UInt8} (ho : Off B.area A' B.s.en (B.s.next - B.s.en)) : Lies A' B.s.first (B.s.recs.take B.s.comm) := by
  have h1 := h.s.room
  have h2 := h.s.en_le
  have h3 := h.alen
  have h4 := h.s.beg_le
  exact ho.lies (chain_take h.s.chain _) (Nat.le_refl _) (by rw [h3]; omega) h.lies
theorem Inv.new_lies (h : Inv st B m c) : Lies B.put B.s.first (B.s.commit.recs.take B.s.commit.comm) := by
  have h1 := h.s.room
  have h2 := h.s.en_le
  have h4 := h.s.beg_le
  have e : rend B.s.en (B.s.recs.drop B.s.comm) = B.s.next := rend_split _ _ _
  have hl : (B.s.recs.take B.s.comm).length = B.s.comm := by rw [List.length_take]; have := h.s.comm; omega
  have e2 : B.s.commit.recs.take B.s.commit.comm = B.s.recs.take B.s.comm ++ B.s.recs.drop B.s.comm := by
    show B.s.recs.take B.s.recs.length = _
    rw [List.take_length, List.take_append_drop]
  rw [e2, lies_append, hl]
  refine ⟨h.old_off h.put_off, ?_⟩
  exact puts_lies B.area (B.s.first + B.s.comm) B.s.en B.s.beg (B.s.recs.drop B.s.comm) (chain_drop h.s.chain _) h4 (by rw [e, h.alen]; exact h1)
theorem Inv.commit_ok (h : Inv st B m c) (hc : c + 1 ≤ 1048576) (hlt : B.s.comm < B.s.recs.length) {L : List (Nat × ByteArray)} (hL : RingOK B.area B.put m L) :
    ((st.commitV L B.s.commit.hd).1 = 0 ∧ Inv (st.commitV L B.s.commit.hd).2 B.commit m (c + 1)) ∨
    ((st.commitV L B.s.commit.hd).1 = 36 ∧ (st.commitV L B.s.commit.hd).2.down = true ∧ (st.commitV L B.s.commit.hd).2.wf ∧ ∀ cs, ∃ S, (S = B.s.reopen ∨ S = B.s.commit) ∧
      Inv ((st.commitV L B.s.commit.hd).2.start cs) ⟨((st.commitV L B.s.commit.hd).2.start cs).sct 0, ((st.commitV L B.s.commit.hd).2.start cs).sct 1, ((st.commitV L B.s.commit.hd).2.start cs).area, S⟩ m (c + 1)) := by
  have hk : ∀ p, p ∈ L → p.1 < st.dur.length ∧ p.2.size = 256 := fun p hp => ⟨by rw [h.len]; exact (hL.at_ p hp).2.1, hL.size hp⟩
  have hwF := h.wf.flushL L
  have hB : B.commit = BS.header { B with area := B.put } B.s.commit := by
    unfold BS.commit
    rw [if_neg (by omega)]
    rfl
  rw [hB]
  have h64 := h.m2
  have hfew := hL.few
  unfold VS.commitV
  rcases VS.flushL_two L h.up h.pend hk (by omega) with ⟨a, b, d, p⟩ | ⟨a, b, d, i, p⟩
  · rw [if_neg (by rw [a]; decide)]
    have get : ∀ k, ((st.flushL L).2.sct k) = if k ∈ L.map (·.1) then sec B.put (k - 2) else st.sct k := by
      intro k
      rw [sct_of p, d, flush_get L (fun k => sec B.put (k - 2)) st.dur (fun q hq => ⟨(hk q hq).1, (hL.at_ q hq).2.2⟩), sct_of h.pend]
    have no : ∀ k, k < 2 → k ∉ L.map (·.1) := by
      intro k hk2 hm
      obtain ⟨q, hq, rfl⟩ := List.mem_map.1 hm
      have := (hL.at_ q hq).1
      omega
    have hlen : (st.flushL L).2.dur.length = m + 2 := by rw [d, flush_len, h.len]
    have F : Flushed (st.flushL L).2 B B.put m c := {
      wf := hwF
      up := b
      pend := p
      len := hlen
      m1 := h.m1
      m2 := h.m2
      h0 := by rw [get, if_neg (no 0 (by omega)), h.h0]
      h1 := by rw [get, if_neg (no 1 (by omega)), h.h1]
      area := by
        refine area_of hwF hlen hL.blen (fun k hk => ?_)
        rw [get]
        split
        · rw [show 2 + k - 2 = k from by omega]
        · rename_i hn
          rw [hL.rest k hk hn, h.sct hk]
      alen := hL.blen
      s := h.s
      cur := h.cur
      find := h.find
      old := h.old_off h.put_off
      small := hc }
    exact F.put h.s.commit rfl h.new_lies
  · rw [if_pos (by rw [a]; decide)]
    refine .inr ⟨a, b, hwF, fun cs => ⟨B.s.reopen, .inl rfl, ?_⟩⟩
    have hst : (st.flushL L).2.start cs = ⟨settle (L.take i) cs st.dur, [], none, false⟩ := by
      unfold VS.start
      rw [if_pos b, p, d]
    have hw2 := hwF.start cs
    rw [hst] at hw2 ⊢
    have hdl : (settle (L.take i) cs st.dur).length = m + 2 := by rw [settle_len, h.len]
    have byte := settle_byte (L.take i) cs st.dur h.wf.dur (fun q hq => hL.size (List.mem_of_mem_take hq))
    have get : ∀ k, (⟨settle (L.take i) cs st.dur, [], none, false⟩ : VS).sct k = ((settle (L.take i) cs st.dur).getD k zb).data.toList := fun k => sct_of rfl k
    have low : ∀ k, k < 2 → (⟨settle (L.take i) cs st.dur, [], none, false⟩ : VS).sct k = st.sct k := by
      intro k hk2
      apply getD_ext (by rw [hw2.sct, h.wf.sct])
      intro j _
      rw [get, sct_of h.pend]
      rcases byte k j with e | ⟨q, hq, e, _⟩
      · exact e
      · have := (hL.at_ q (List.mem_of_mem_take hq)).1
        omega
    have hal : (⟨settle (L.take i) cs st.dur, [], none, false⟩ : VS).area.length = 256 * m := by
      have := hw2.area
      rw [this]
      show 256 * ((settle (L.take i) cs st.dur).length - 2) = _
      rw [hdl]; rfl
    have hoff : Off B.area (⟨settle (L.take i) cs st.dur, [], none, false⟩ : VS).area B.s.en (B.s.next - B.s.en) := by
      refine ⟨by rw [hal, h.alen], fun x hx hn => ?_⟩
      have hx' : x < 256 * m := by rw [← h.alen]; exact hx
      have hput := h.put_off.2 x hx hn
      have e1 := sec_at (⟨settle (L.take i) cs st.dur, [], none, false⟩ : VS).area (x / 256) (x % 256) (by omega)
      have e2 := sec_at B.area (x / 256) (x % 256) (by omega)
      have e3 := sec_at B.put (x / 256) (x % 256) (by omega)
      rw [show 256 * (x / 256) + x % 256 = x from by omega] at e1 e2 e3
      rw [← e1, hw2.sec (by show x / 256 < (settle (L.take i) cs st.dur).length - 2; rw [hdl]; omega), get]
      rcases byte (2 + x / 256) (x % 256) with e | ⟨q, hq, e, e'⟩
      · rw [e, ← sct_of h.pend, h.sct (by omega), e2]
      · rw [e', (hL.at_ q (List.mem_of_mem_take hq)).2.2, e, show 2 + x / 256 - 2 = x / 256 from by omega, e3, hput]
    have hre := h.s.reopen
    have hl' : B.s.reopen.recs.take B.s.reopen.comm = B.s.recs.take B.s.comm := by show (B.s.recs.take B.s.comm).take B.s.comm = _; rw [List.take_take, Nat.min_self]
    have he : B.s.reopen.hd = B.s.hd := by unfold JS.hd JS.en; rw [hl']; rfl
    refine Inv.mk_still hw2 rfl rfl hdl h.m1 h.m2 (hre.mono (by omega)) hc ?_ ?_ ?_
    · rw [hl']; exact h.old_off hoff
    · rw [he, low 0 (by omega), low 1 (by omega), h.h0, h.h1]; exact h.cur
    · rw [he, low 0 (by omega), low 1 (by omega), h.h0, h.h1]; exact h.find
theorem Inv.trunc_ok (h : Inv st B m c) (hc : c + 1 ≤ 1048576) {k : Nat} (hk : k ≤ B.s.comm) :
    ((st.putHd (B.s.drop k).hd).1 = 0 ∧ Inv (st.putHd (B.s.drop k).hd).2 (BS.header B (B.s.drop k)) m (c + 1)) ∨
    ((st.putHd (B.s.drop k).hd).1 = 36 ∧ (st.putHd (B.s.drop k).hd).2.down = true ∧ (st.putHd (B.s.drop k).hd).2.wf ∧ ∀ cs, ∃ S, (S = B.s.reopen ∨ S = (B.s.drop k).reopen) ∧
      Inv ((st.putHd (B.s.drop k).hd).2.start cs) ⟨((st.putHd (B.s.drop k).hd).2.start cs).sct 0, ((st.putHd (B.s.drop k).hd).2.start cs).sct 1, ((st.putHd (B.s.drop k).hd).2.start cs).area, S⟩ m (c + 1)) := by
  have hcm := h.s.comm
  have hd : Lies B.area (B.s.drop k).first ((B.s.drop k).recs.take (B.s.drop k).comm) := by
    show Lies B.area (B.s.first + k) ((B.s.recs.drop k).take (B.s.comm - k))
    rw [← List.drop_take]
    have := h.lies
    rw [← List.take_append_drop k (B.s.recs.take B.s.comm), lies_append] at this
    have hl : ((B.s.recs.take B.s.comm).take k).length = k := by rw [List.length_take, List.length_take]; omega
    rw [hl] at this
    exact this.2
  rcases (h.flushed0 hc).put (h.s.drop hk) rfl hd with ⟨a, b⟩ | ⟨a, b, w, f⟩
  · exact .inl ⟨a, b⟩
  · refine .inr ⟨a, b, w, fun cs => ?_⟩
    obtain ⟨S, hS, hi⟩ := f cs
    rcases hS with rfl | rfl
    · exact ⟨_, .inl rfl, hi⟩
    · refine ⟨_, .inr rfl, ?_⟩
      have := hi.reopen
      exact this
/-- formatting again -/
def JS.blank (h : Nat) : JS := ⟨h + 1, 1, 0, [], 0⟩
theorem JS.blank_wf (n h c : Nat) (hc : h + 1 ≤ c) : (JS.blank h).wf n c := ⟨trivial, Nat.le_refl _, Nat.zero_le _, Nat.le_refl _, hc, by show 1 + 0 ≤ c; omega, by show 0 ≤ 16384 * c; omega⟩
theorem Inv.format_ok (h : Inv st B m c) (hc : c + 1 ≤ 1048576) (hn : (st.putHd (JS.blank B.s.h).hd).1 ≠ 36) :
    (st.putHd (JS.blank B.s.h).hd).1 = 0 ∧ Inv (st.putHd (JS.blank B.s.h).hd).2 (BS.header B (JS.blank B.s.h)) m (c + 1) := by
  rcases (h.flushed0 hc).put (s := JS.blank B.s.h) (JS.blank_wf _ _ _ (by have := h.s.h; omega)) rfl trivial with ⟨a, b⟩ | ⟨a, _⟩
  · exact ⟨a, b⟩
  · exact absurd a hn
end

/-! ### a device without a limit does not fail -/
def Calm (st : VS) : Prop := st.lim = none ∧ st.down = false
theorem Calm.tick {st : VS} (h : Calm st) : st.tick = (false, st) := by
  unfold VS.tick
  rw [h.1]
theorem Calm.write {st : VS} (h : Calm st) (s : Int) (d : ByteArray) : Calm (st.write s d).2 ∧ (st.write s d).1 ≠ 36 := by
  unfold VS.write
  rw [if_neg (by rw [h.2]; decide)]
  split
  · exact ⟨h, by show (2 : Nat) ≠ 36; decide⟩
  · split
    · exact ⟨h, by show (10 : Nat) ≠ 36; decide⟩
    · split
      · exact ⟨h, by show (37 : Nat) ≠ 36; decide⟩
      · have h' : Calm { st with pend := st.pend ++ [(s.toNat, d)] } := h
        simp only
        rw [h'.tick]
        exact ⟨h', by show (0 : Nat) ≠ 36; decide⟩
theorem Calm.barrier {st : VS} (h : Calm st) : Calm st.barrier.2 ∧ st.barrier.1 ≠ 36 := by
  unfold VS.barrier
  rw [if_neg (by rw [h.2]; decide)]
  simp only
  rw [h.tick]
  exact ⟨h, by show (0 : Nat) ≠ 36; decide⟩
theorem Calm.writes {st : VS} (h : Calm st) (L : List (Nat × ByteArray)) : Calm (st.writes L).2 ∧ (st.writes L).1 ≠ 36 := by
  induction L generalizing st with
  | nil => exact ⟨h, by show (0 : Nat) ≠ 36; decide⟩
  | cons p r ih =>
    unfold VS.writes
    split
    · exact h.write _ _
    · exact ih (h.write _ _).1
theorem Calm.flushL {st : VS} (h : Calm st) (L : List (Nat × ByteArray)) : Calm (st.flushL L).2 ∧ (st.flushL L).1 ≠ 36 := by
  unfold VS.flushL
  split
  · exact h.writes L
  · exact (h.writes L).1.barrier
theorem Calm.putHd {st : VS} (h : Calm st) (x : Hd) : Calm (st.putHd x).2 ∧ (st.putHd x).1 ≠ 36 := by
  unfold VS.putHd
  split
  · exact h.write _ _
  · exact (h.write _ _).1.barrier
theorem Calm.commitV {st : VS} (h : Calm st) (L : List (Nat × ByteArray)) (x : Hd) : Calm (st.commitV L x).2 ∧ (st.commitV L x).1 ≠ 36 := by
  unfold VS.commitV
  split
  · exact h.flushL L
  · exact (h.flushL L).1.putHd x

/-! ### a new device, formatted -/
theorem new_sct (n k : Nat) (hk : k < n) : (VS.new n).sct k = List.replicate 256 0 := by
  rw [sct_of rfl]
  unfold VS.new
  rw [List.getD_eq_getElem?_getD, List.getElem?_replicate, if_pos hk]
  exact List.toList_toArray
theorem new_found (m : Nat) (hm : 1 ≤ m) : findHd ((VS.new (m + 2)).sct 0) ((VS.new (m + 2)).sct 1) (256 * m) = (Hd.nil, false) := by
  unfold findHd
  rw [new_sct _ 0 (by omega), new_sct _ 1 (by omega), readHd_zero, readHd_zero]
  rfl
theorem zero_sec (m k : Nat) (hk : k < m) : sec (List.replicate (256 * m) 0) k = List.replicate 256 0 := by
  unfold sec
  rw [List.drop_replicate, List.take_replicate]
  congr 1
  omega
theorem format_new (m : Nat) (h1 : 1 ≤ m) (h2 : m ≤ 64) :
    ((VS.new (m + 2)).putHd (JS.blank 0).hd).1 = 0 ∧ Inv ((VS.new (m + 2)).putHd (JS.blank 0).hd).2 (BS.header (BS.blank m) (JS.blank 0)) m 1 ∧ Calm ((VS.new (m + 2)).putHd (JS.blank 0).hd).2 := by
  have hw := VS.wf_new (n := m + 2) (by omega) (by omega)
  have hcalm : Calm (VS.new (m + 2)) := ⟨rfl, rfl⟩
  have hlen : (VS.new (m + 2)).dur.length = m + 2 := List.length_replicate
  have hs : (JS.blank 0).wf (256 * m) 1 := JS.blank_wf _ _ _ (Nat.le_refl _)
  rcases VS.putHd_two (st := VS.new (m + 2)) (JS.blank 0).hd rfl rfl (by rw [hlen]; omega) with ⟨a, b, d, p⟩ | ⟨a, _⟩
  · refine ⟨a, ?_, (hcalm.putHd _).1⟩
    have hw' := hw.putHd (JS.blank 0).hd
    have hl' : ((VS.new (m + 2)).putHd (JS.blank 0).hd).2.dur.length = m + 2 := by rw [d, List.length_set, hlen]
    have get : ∀ k, k < m + 2 → ((VS.new (m + 2)).putHd (JS.blank 0).hd).2.sct k = if k = 1 then headT (JS.blank 0).hd else List.replicate 256 0 := by
      intro k hk
      rw [sct_of p, d, getD_set, hlen]
      have e1 : (JS.blank 0).hd.num % 2 = 1 := rfl
      rw [e1]
      by_cases e : k = 1
      · subst e
        rw [if_pos ⟨rfl, by omega⟩, if_pos rfl, bytesOf_list]
      · rw [if_neg (fun h => e h.1.symm), if_neg e, ← new_sct (m + 2) k hk, sct_of rfl]
    have hr : readHd (headT (JS.blank 0).hd) 1 (256 * m) = ((JS.blank 0).hd, true) := by
      rw [readHd_headT (hs.hd_small (by omega))]
      have := hs.hd_fits
      rw [show (JS.blank 0).h % 2 = 1 from rfl] at this
      rw [this]
    refine ⟨hw', b, p, hl', h1, h2, ?_, ?_, ?_, hs, trivial, hr, ?_, by omega⟩
    · rw [get 0 (by omega)]; rfl
    · rw [get 1 (by omega)]; rfl
    · refine area_of hw' hl' ?_ (fun k hk => ?_)
      · show (List.replicate (256 * m) (0 : UInt8)).length = _
        rw [List.length_replicate]
      · show _ = sec (List.replicate (256 * m) (0 : UInt8)) k
        rw [get (2 + k) (by omega), if_neg (by omega), zero_sec m k hk]
    · show findHd (List.replicate 256 0) (headT (JS.blank 0).hd) (256 * m) = _
      unfold findHd
      rw [readHd_zero, hr]
      rfl
  · exact absurd a (hcalm.putHd _).2
end Go.Proofs.YtfdnpchbbngpjaaGreat
namespace Go.Proofs.YtfdnpchbbngpjaaGreat

theorem Inv.withS {st : VS} {B : BS} {m c c' : Nat} (h : Inv st B m c) (S' : JS) (hw : S'.wf (256 * m) c') (hh : S'.h = B.s.h) (hf : S'.first = B.s.first) (hb : S'.beg = B.s.beg) (ht : S'.recs.take S'.comm = B.s.recs.take B.s.comm) (hc : c' ≤ 1048576) :
    Inv st { B with s := S' } m c' := by
  have he : S'.hd = B.s.hd := by unfold JS.hd JS.en; rw [hh, hf, hb, ht]
  refine ⟨h.wf, h.up, h.pend, h.len, h.m1, h.m2, h.h0, h.h1, h.area, hw, ?_, ?_, ?_, hc⟩
  · show Lies B.area S'.first (S'.recs.take S'.comm)
    rw [hf, ht]; exact h.lies
  · show readHd (BS.head { B with s := S' } S'.h) (S'.h % 2) (256 * m) = (S'.hd, true)
    rw [he, hh]; exact h.cur
  · show findHd B.h0 B.h1 (256 * m) = (S'.hd, true)
    rw [he]; exact h.find
theorem Inv.append {st : VS} {B : BS} {m c : Nat} (h : Inv st B m c) (hc : c + 1 ≤ 1048576) (d : ByteArray) : Inv st (B.append d).2.2 m (c + 1) := by
  have hA := h.alen
  have hm := h.m2
  have hw := h.s.append (by omega) d
  unfold BS.append
  rw [hA]
  have hcm := h.s.comm
  refine h.withS _ hw ?_ ?_ ?_ ?_ hc
  all_goals
    unfold JS.append
    split
    · rfl
    · split
      · rfl
      · first
          | rfl
          | exact List.take_append_of_le_length hcm
theorem Inv.append_err {st : VS} {B : BS} {m c : Nat} (h : Inv st B m c) (d : ByteArray) : (B.append d).1 = (B.s.append (256 * m) d).1 ∧ (B.append d).2.1 = (B.s.append (256 * m) d).2.1 ∧ (B.append d).2.2.s = (B.s.append (256 * m) d).2.2 ∧ (B.append d).2.2.area = B.area := by
  unfold BS.append
  rw [h.alen]
  exact ⟨rfl, rfl, rfl, rfl⟩
end Go.Proofs.YtfdnpchbbngpjaaGreat
