/- The device beside its journal; a sector changed; the law Scans. -/
import Derived.Test.YtfdnpchbbngpjaaGreatJxb
import Derived.Test.YtfdnpchbbngpjaaGreatJsd
import Derived.Laws.IdiomArrays
namespace Go.Proofs.YtfdnpchbbngpjaaGreat
open Go.RowKit Go.Maps

theorem lastAt_snoc (ps : List (Nat × ByteArray)) (k i : Nat) (d : ByteArray) : lastAt (ps ++ [(k, d)]) i = if k = i then some d else lastAt ps i := by
  unfold lastAt
  rw [List.reverse_append]
  by_cases h : k = i
  · subst h
    simp
  · rw [if_neg h]
    simp [h]
theorem VS.write_calm {st : VS} (hC : Calm st) {k : Nat} (hk : k < st.dur.length) {d : ByteArray} (hs : d.size = 256) (hr : st.pend.length < 4096) :
    (st.write (k : Int) d).1 = 0 ∧ Calm (st.write (k : Int) d).2 ∧ (st.write (k : Int) d).2.dur = st.dur ∧ (st.write (k : Int) d).2.pend = st.pend ++ [(k, d)] := by
  obtain ⟨h1, h2, h3⟩ := VS.write_two hC.2 hk hs hr
  have h4 := hC.write (k : Int) d
  rcases h1 with ⟨a, _⟩ | ⟨a, _⟩
  · exact ⟨a, h4.1, h2, h3⟩
  · exact absurd a h4.2
theorem sct_write {st st' : VS} {k : Nat} {d : ByteArray} (hd : st'.dur = st.dur) (hp : st'.pend = st.pend ++ [(k, d)]) (i : Nat) : st'.sct i = if k = i then d.data.toList else st.sct i := by
  unfold VS.sct VS.content VS.at_
  rw [hp, hd, lastAt_snoc]
  split <;> rfl
section
variable {w0 w w' : World} {vb jb bb tb : Nat} {S : JS} {br : Bool} {st st' : VS} {B : BS} {X : List (Nat × Obj)}
theorem JV.stepOf {rv : Value} {hen : Nat} {F : List Nat} (h : JV w jb vb tb S br rv hen st F) (hs : Step F w w' vb st') : StepV w w' jb vb tb rv F S br st' := by
  obtain ⟨F', k1, k2, k3⟩ := h.stepD hs
  refine ⟨rv, hen, F', k1, k2.mono (fun i hi => by simp [jvfoot, hi]), fun i hi => ?_⟩
  unfold jvfoot at hi ⊢
  rcases List.mem_cons.1 hi with rfl | hi
  · exact .inl (by simp)
  rcases List.mem_append.1 hi with hi | hi
  · exact .inl (by simp [hi])
  · rcases k3 i hi with e | e
    · exact .inl (by simp [e])
    · exact .inr e
theorem kdev {f : FuncId} {a : Array Value} (P : Ending → Prop) (h : Wk w0 w vb jb bb tb S br st B X)
    (hc : ∀ F, VolF w vb st F → Calls Tryz.prog f a w fun e w' => P e ∧ Step F w w' vb st') : Calls Tryz.prog f a w fun e w' => P e ∧ Wk w0 w' vb jb bb tb S br st' B X := by
  obtain ⟨rv, hen, F, G, k1, k2, k3, k4, k5, k6⟩ := h
  refine (hc F k1.v).mono ?_
  rintro e w' ⟨hp, hs⟩
  exact ⟨hp, Wk.toV k1 k2 k3 k4 k5 k6 (k1.stepOf hs)⟩
/-- a sector is read -/
theorem kvread (h : Wk w0 w vb jb bb tb S br st B X) (hd : st.down = false) {k : Nat} (hk : k < st.dur.length) :
    Calls Tryz.prog 37 #[.pointer (some ⟨vb, 0, none⟩), .int .i64 (k : Int)] w fun e w' => e = .returned (.tuple #[.string (st.content k), .int .i64 0]) ∧ Wk w0 w' vb jb bb tb S br st B X :=
  h.callL _ (fun _ _ _ _ j _ => by
    have := read_any (k : Int) j.v
    rw [read_in hd hk] at this
    exact this)
/-- a sector is written -/
theorem kvwrite (h : Wk w0 w vb jb bb tb S br st B X) (k : Nat) (d : ByteArray) :
    Calls Tryz.prog 38 #[.pointer (some ⟨vb, 0, none⟩), .int .i64 (k : Int), .string d] w fun e w' => e = .returned (.int .i64 ((st.write (k : Int) d).1 : Int)) ∧ Wk w0 w' vb jb bb tb S br (st.write (k : Int) d).2 B X :=
  kdev _ h (fun _ k' => write_any (k : Int) d k')
end
end Go.Proofs.YtfdnpchbbngpjaaGreat
namespace Go.Proofs.YtfdnpchbbngpjaaGreat
open Go.RowKit Go.Maps Go.WideShapes Go.ChangeShapes Go.ChangeAt Go.Deep

theorem fr_rend (A : List UInt8) (en p k : Nat) : rend p (fr A en p k) ≤ max p en := by
  fun_induction fr A en p k with
  | case1 => exact Nat.le_max_left _ _
  | case2 p k h1 h2 ih =>
    have hl : (⟨(fdata A p).toArray⟩ : ByteArray).size = fsize A p := by
      show (fdata A p).toArray.size = _
      rw [List.size_toArray]; exact rd_length _ _ _
    unfold frFits at h2
    simp at h2
    have h3 := h2.1.1.2
    simp only [rend]
    rw [hl]
    omega
  | case3 => exact Nat.le_max_left _ _
theorem found_wide {st : VS} {m : Nat} (hw : st.wf) (hl : st.dur.length = m + 2) (hm2 : m ≤ 64) {S : JS} (hf : st.found = some S) : S.wide := by
  rw [found_parts hw hl] at hf
  have hfb := findHd_bool (s0 := st.sct 0) (s1 := st.sct 1) (n := 256 * m)
  obtain ⟨H, o, hH⟩ : ∃ H o, findHd (st.sct 0) (st.sct 1) (256 * m) = (H, o) := ⟨_, _, rfl⟩
  rw [hH] at hf hfb
  cases o with
  | false => cases hf
  | true =>
    simp only [if_true] at hf hfb
    injection hf with hf
    obtain ⟨⟨h1, h2, h3, h4⟩, h5, h6⟩ := hfb True.intro
    obtain ⟨n, f, b, en⟩ := H
    simp only at h1 h2 h3 h4 h5 h6 hf
    have hr := fr_rend st.area en b f
    have hc := fr_chain st.area en b f
    have hfew := fr_few st.area en b f
    subst hf
    have hr' : rend b (fr st.area en b f) ≤ 281474976710656 := by omega
    refine ⟨Nat.le_refl _, by show (fr st.area en b f).length ≤ _; omega, by show f ≤ _; omega, by show b ≤ _; omega, Nat.le_trans hr' (by decide), fun r hr2 => ?_⟩
    obtain ⟨i, hi⟩ := List.getElem?_of_mem hr2
    have := chain_get hc hi
    omega
/-! ### a slice of triples of bytes -/
abbrev D3 := Nat × Nat × Nat
def D3At (w : World) (b off : Nat) (o : D3) : Prop := (o.1 < 256 ∧ o.2.1 < 256 ∧ o.2.2 < 256) ∧ w.cell? ⟨b, off, none⟩ = some (.int .u8 (o.1 : Int)) ∧ w.cell? ⟨b, off + 1, none⟩ = some (.int .u8 (o.2.1 : Int)) ∧ w.cell? ⟨b, off + 2, none⟩ = some (.int .u8 (o.2.2 : Int))
def D3s (w : World) (v : Value) (l : List D3) : Prop :=
  ∃ (ao : Option Addr) (cap : Nat), v = .slice ao l.length cap ∧ l.length ≤ maxLen ∧ (0 < l.length → ∃ b off, ao = some ⟨b, off, none⟩ ∧ b < w.heap.size ∧ ∀ i (h : i < l.length), D3At w b (off + i * 3) l[i])
theorem d3_cells {w0 w' : World} {v : Value} {l : List D3} (h : D3s w0 v l) (hb : Below w0.heap.size w0 w') {k : Nat} (hk : k < l.length) :
    ∃ b off cap, v = .slice (some ⟨b, off, none⟩) l.length cap ∧ b < w0.heap.size ∧ D3At w' b (off + k * 3) l[k] := by
  obtain ⟨ao, cap, h1, h2, h3⟩ := h
  obtain ⟨b, off, e, hlt, hc⟩ := h3 (by omega)
  subst e
  obtain ⟨k0, k1, k2, k3⟩ := hc k hk
  exact ⟨b, off, cap, h1, hlt, k0, (hb.cell (p := ⟨b, _, none⟩) hlt).trans k1, (hb.cell (p := ⟨b, _, none⟩) hlt).trans k2, (hb.cell (p := ⟨b, _, none⟩) hlt).trans k3⟩
set_option maxRecDepth 100000 in
theorem read_d3 {H : Type} {enc : TypeId × Value → H} {W : World} {base : Nat} {sp : Nat → Bool} {held : Bool} {n : Nat} {cs : List Value} {x : DataW H × List MemPlace} (hlen : cs.length = 3)
    (h : DataW.trod enc Tryz.prog W base sp held n 68 cs = some x) : ∃ o : D3, (o.1 < 256 ∧ o.2.1 < 256 ∧ o.2.2 < 256) ∧ cs = [.int .u8 (o.1 : Int), .int .u8 (o.2.1 : Int), .int .u8 (o.2.2 : Int)] := by
  match cs, hlen with
  | [c0, c1, c2], _ =>
    obtain ⟨y0, y1, y2, n, hy, hy0, hy1, hy2⟩ := trod_array3 Tryz.underlying68 (by kernel_rfl) h
    obtain ⟨k0, e0, _, w0⟩ := DataW.trod_int Tryz.underlying5 hy0
    obtain ⟨k1, e1, _, w1⟩ := DataW.trod_int Tryz.underlying5 hy1
    obtain ⟨k2, e2, _, w2⟩ := DataW.trod_int Tryz.underlying5 hy2
    obtain ⟨n0, rfl, b0⟩ := u8of w0
    obtain ⟨n1, rfl, b1⟩ := u8of w1
    obtain ⟨n2, rfl, b2⟩ := u8of w2
    simp at e0 e1 e2
    exact ⟨⟨n0, n1, n2⟩, ⟨b0, b1, b2⟩, by rw [e0, e1, e2]⟩
set_option maxRecDepth 100000 in
theorem open_d3s {H : Type} {enc : TypeId × Value → H} {W : World} {base b0 : Nat} {sp : Nat → Bool} {held : Bool} {r : Reach} {v : Value} {d : DataW H} {ps : List MemPlace}
    (hv : Value.okWide Tryz.prog W r b0 67 v) (hd : DataW.Trod enc Tryz.prog W base sp held 67 v d ps) : ∃ l, D3s W v l := by
  obtain ⟨a, len, cap, rfl⟩ := okWide_slice Tryz.underlying67 hv
  obtain ⟨fuel, hf⟩ := hd
  rcases open_slice Tryz.underlying67 hf with ⟨hcs, _⟩ | ⟨a', len', cap', m, n, D, Pl, hcs, hb, hl, hm, hmm, _, hi⟩
  · simp [Value.cells] at hcs
    obtain ⟨rfl, rfl, rfl⟩ := hcs
    exact ⟨[], none, 0, rfl, Nat.zero_le _, fun h => absurd h (by simp)⟩
  · simp [Value.cells] at hcs
    obtain ⟨rfl, rfl, rfl⟩ := hcs
    rw [show Tryz.prog.cellsOf 68 = 3 from by kernel_rfl] at hi
    have hlm : len ≤ m := by
      rw [hmm]; split <;> omega
    have hex : ∀ i, ∃ o : D3, i < len → (o.1 < 256 ∧ o.2.1 < 256 ∧ o.2.2 < 256) ∧ ∀ j, j < 3 → W.cell? (a'.add (i * 3 + j)) = [Value.int .u8 (o.1 : Int), .int .u8 (o.2.1 : Int), .int .u8 (o.2.2 : Int)][j]? := by
      intro i
      by_cases hlt : i < len
      · obtain ⟨cs, hc, ht⟩ := hi i (by omega)
        obtain ⟨_, hlen, hat⟩ := World.cells?_some hc
        obtain ⟨o, ho, rfl⟩ := read_d3 hlen ht
        refine ⟨o, fun _ => ⟨ho, fun j hj => ?_⟩⟩
        rw [← Go.Deep.add_add]
        exact hat j hj
      · exact ⟨⟨0, 0, 0⟩, fun h => absurd h hlt⟩
    obtain ⟨f, hf⟩ := Classical.skolem.1 hex
    refine ⟨(List.range len).map f, some a', cap, by simp, by simp; omega, fun hp => ?_⟩
    simp at hp
    obtain ⟨b, off, spot⟩ := a'
    have hspot : spot = none := by
      have h0 : W.cell? ((⟨b, off, spot⟩ : Addr).add (0 * 3 + 0)) = some (.int .u8 ((f 0).1 : Int)) := (hf 0 hp).2 0 (by omega)
      have h1 := World.cell?_spot h0
      exact h1
    subst hspot
    have hcell : ∀ i, i < len → ∀ j, j < 3 → W.cell? ⟨b, off + i * 3 + j, none⟩ = [Value.int .u8 ((f i).1 : Int), .int .u8 ((f i).2.1 : Int), .int .u8 ((f i).2.2 : Int)][j]? := by
      intro i h j hj
      rw [← (hf i h).2 j hj, Go.WideShapes.add_plain, Nat.add_assoc]
    refine ⟨b, off, rfl, vcell_lt (hcell 0 hp 0 (by omega)), fun i h => ?_⟩
    simp at h
    simp only [List.getElem_map, List.getElem_range]
    exact ⟨(hf i h).1, hcell i h 0 (by omega), hcell i h 1 (by omega), hcell i h 2 (by omega)⟩
/-! ### bytes of a sector -/
theorem addr_plusD (g j : Nat) : ((⟨g, 0, none⟩ : Addr).add j) = ⟨g, j, none⟩ := by
  unfold Addr.add
  split
  · rename_i h0; subst h0; rfl
  · simp
theorem B256.back {w : World} {g c : Nat} {l : List UInt8} (h : B256 w g l) : (convert 31 9 (.slice (some ⟨g, 0, none⟩) 256 c)).run Tryz.prog w = .ok (.string ⟨l.toArray⟩) w := by
  have hl : l.length = 256 := by obtain ⟨_, _, _, _, _, h⟩ := h; exact h
  have := run_convert_bytes_back (P := Tryz.prog) w 31 9 5 ⟨g, 0, none⟩ c l Tryz.underlying31 Tryz.underlying5 Tryz.underlying9 (fun j hj2 => by
    rw [addr_plusD g j, h.cell (by omega), List.getD_eq_getElem?_getD, List.getElem?_eq_getElem hj2]
    rfl)
  rw [hl] at this
  exact this
theorem B256.put {w : World} {g o : Nat} {l : List UInt8} (h : B256 w g l) (ho : o < 256) (y : UInt8) : B256 (w.setCell ⟨g, o, none⟩ (.int .u8 (y.toNat : Int))).drew g (l.set o y) := by
  obtain ⟨c, fr, h1, h2, h3, h4⟩ := h
  refine ⟨c.setIfInBounds o (.int .u8 (y.toNat : Int)), fr, by show (w.setCell ⟨g, o, none⟩ _).heap[g]? = _; simp [World.setCell, Array.getElem?_modify, h1], fun j hj => ?_, h3, by rw [List.length_set, h4]⟩
  by_cases e : o = j
  · subst e
    have hs := (Array.getElem?_eq_some_iff.1 (h2 o hj)).1
    rw [Array.getElem?_setIfInBounds_self_of_lt hs, getD_set_self (by omega)]
  · rw [Array.getElem?_setIfInBounds_ne e, getD_set_ne e, h2 j hj]
section
variable {w0 w w' : World} {vb jb bb tb b : Nat} {S T : JS} {br : Bool} {st : VS} {B C : BS} {X Y : List (Nat × Obj)} {m c : Nat}
theorem Wk.wf (h : Wk w0 w vb jb bb tb S br st B X) : st.wf := by
  obtain ⟨rv, hen, F, G, h1, _⟩ := h
  exact h1.v.wf
theorem kvlen (h : Wk w0 w vb jb bb tb S br st B X) :
    Calls Tryz.prog 36 #[.pointer (some ⟨vb, 0, none⟩)] w fun e w' => e = .returned (.int .i64 (st.dur.length : Int)) ∧ Wk w0 w' vb jb bb tb S br st B X :=
  h.callL _ (fun _ _ _ _ j _ => (len_own j.v).mono (by rintro e w' ⟨rfl, rfl⟩; exact ⟨rfl, Below.refl _ _⟩))
theorem kvlen_at (h : Wk w0 w vb jb bb tb S br st B X) (n : Nat) :
    Calls Tryz.prog 36 #[.pointer (some ⟨vb, 0, none⟩)] (w.drewN n) fun e w' => e = .returned (.int .i64 (st.dur.length : Int)) ∧ w.drewN n = w' := by
  obtain ⟨rv, hen, F, G, h1, _⟩ := h
  exact len_own (h1.v.below (below_drewN (Below.refl _ _)))
/-- the device alone, and what the law's own scan has laid beside it -/
def Vs (w0 w : World) (vb f : Nat) (st : VS) : Prop :=
  ∃ F G, VolF w vb st F ∧ (∀ i, i ∈ F → i ∉ G ∧ w0.heap.size ≤ i) ∧ (∀ i, i ∈ G → w0.heap.size ≤ i) ∧ (∀ S, st.found = some S → BkF w f ⟨st.sct 0, st.sct 1, st.area, S⟩ G) ∧ Below w0.heap.size w0 w
theorem kscan_any (h : Wk w0 w vb jb bb tb S br st B X) (hd : st.down = false) (hl : st.dur.length = m + 2) (hm : 1 ≤ m) (hm2 : m ≤ 64) :
    Calls Tryz.prog 19 #[.pointer (some ⟨vb, 0, none⟩)] w fun e w' => ∃ f, e = .returned (.tuple #[.pointer (some ⟨f, 0, none⟩), .bool st.found.isSome]) ∧ Vs w0 w' vb f st := by
  obtain ⟨rv, hen, F, G, h1, h2, h3, h4, h5, _⟩ := h
  refine (scan_any h1.v hd hl hm hm2).mono ?_
  rintro e w' ⟨f, G', rfl, hb, hG, hB⟩
  have hs := h5.size
  refine ⟨f, rfl, F, G', h1.v.below hb, fun i hi => ⟨fun hg => ?_, (h3 i (by simp [jvfoot, hi])).2⟩, fun i hi => Nat.le_trans hs (hG i hi), hB, h5.trans (hb.mono hs)⟩
  have := h1.v.lt i hi
  have := hG i hg
  omega
theorem Vs.size {f : Nat} (h : Vs w0 w vb f st) : Below w0.heap.size w0 w := by
  obtain ⟨_, _, _, _, _, _, h⟩ := h
  exact h
theorem sopen_none {f : Nat} (h : Vs w0 w vb f st) (hd : st.down = false) (hl : st.dur.length = m + 2) (hm : 1 ≤ m) (hf : st.found = none) :
    Calls Tryz.prog 20 #[.pointer (some ⟨vb, 0, none⟩)] w fun e w' => e = .returned (.tuple #[.pointer none, .int .i64 15]) ∧ Below w0.heap.size w0 w' := by
  obtain ⟨F, G, h1, h2, h3, h4, h5⟩ := h
  refine (open_none h1 hd hl hm hf).mono ?_
  rintro e w' ⟨rfl, hb⟩
  exact ⟨rfl, h5.trans (hb.mono h5.size)⟩
theorem sopen_yes {f : Nat} (h : Vs w0 w vb f st) (hd : st.down = false) (hl : st.dur.length = m + 2) (hm : 1 ≤ m) (hm2 : m ≤ 64) (hf : st.found = some S) :
    Calls Tryz.prog 20 #[.pointer (some ⟨vb, 0, none⟩)] w fun e w' => ∃ jb tb, e = .returned (.tuple #[.pointer (some ⟨jb, 0, none⟩), .int .i64 0]) ∧ Wk w0 w' vb jb f tb S false st ⟨st.sct 0, st.sct 1, st.area, S⟩ [] := by
  obtain ⟨F, G, k1, k3, k4, k2', k5⟩ := h
  have k2 := k2' S hf
  refine (open_yes k1 hd hl hm hm2 hf).mono ?_
  rintro e w' ⟨jb', tb', rv', hen', rfl, hj, ht, hb, htb, hjf⟩
  have hs := hb.size
  refine ⟨jb', tb', rfl, rv', hen', F, G, ⟨hj, k1.below hb, ht, fun i hi hi2 => ?_, fun hi => (hjf tb' hi).2 rfl, fun hi => ?_⟩, k2.below hb, fun i hi => ?_, k4, k5.trans (hb.mono k5.size), fun x hx => by cases hx⟩
  · have h3 := (hjf i hi).1
    have h4 := k1.lt i hi2
    omega
  · have h4 := k1.lt tb' hi
    omega
  · unfold jvfoot at hi
    rcases List.mem_cons.1 hi with rfl | hi
    · exact ⟨fun hg => by have := k2.lt _ hg; omega, Nat.le_trans k5.size htb⟩
    rcases List.mem_append.1 hi with hi | hi
    · have := (hjf i hi).1
      exact ⟨fun hg => by have := k2.lt _ hg; omega, Nat.le_trans k5.size this⟩
    · exact k3 i hi
theorem kagrees_wide (h : Wk w0 w vb jb bb tb S false st B X) (hs : B.s = S) (hA : B.area.length = 256 * m) (hl : st.dur.length = m + 2) (hm2 : m ≤ 64) (hS : S.wide) :
    Calls Tryz.prog 15 #[.pointer (some ⟨bb, 0, none⟩), .pointer (some ⟨jb, 0, none⟩)] w fun e w' => e = .returned (.bool true) ∧ Wk w0 w' vb jb bb tb S false st B X :=
  h.callL _ (fun _ _ _ _ j k => agrees_wide j k hs hA hl hm2 hS)
end
end Go.Proofs.YtfdnpchbbngpjaaGreat
namespace Go.Proofs.YtfdnpchbbngpjaaGreat
attribute [local go_sem ↓] Go.wp_at_zero Go.wp_at_succ
open Go.RowKit Go.Maps

/-- what the loop of damages holds -/
structure ScR (w : World) (vb jb bb tb m : Nat) (S : JS) (B : BS) (wr : World) (q : Nat) (st : VS) : Prop where
  q10 : q ≤ 10
  wk : Wk w wr vb jb bb tb S false st B []
  calm : Calm st
  len : st.dur.length = m + 2
  pend : st.pend.length ≤ q
set_option maxRecDepth 100000 in
set_option maxHeartbeats 8000000 in
theorem scans_law (a : Int) (ha : (Lit.int .u8 a).wf = true) {l : List JO} {v : Value} {w : World} (hL : JOps w v l) {l2 : List D3} {v2 : Value} (hD : D3s w v2 l2) :
    Calls Tryz.prog 7 #[.int .u8 a, v, v2] w (LawPost w) := by
  obtain ⟨n, rfl, hn⟩ := u8of ha
  have hL2 := hL
  obtain ⟨ao, cap, rfl, hmx, _⟩ := hL2
  have hD2 := hD
  obtain ⟨ao2, cap2, rfl, hmx2, hdz⟩ := hD2
  clear hdz
  have HL := Lib.hid hL
  obtain ⟨L2, hL2e⟩ : ∃ L2, l2.length = L2 := ⟨_, rfl⟩
  rw [hL2e] at hmx2 hD ⊢
  have HD := Lib.hid (And.intro hD hL2e)
  unfold maxLen at hmx hmx2
  have HM := Lib.hid (made_any (1 + n % 10) (by omega) (by omega) w)
  unfold LawPost
  clear ha hL hD hL2e
  go_enter Tryz.func7, Tryz.ntmps7
  go_wp2_with (first
    | (go_at_call 10; refine (sectors_any n hn _).mono ?_; rintro e w1 ⟨rfl, rfl⟩)
    | (go_at_call 9; refine HM.out.mono ?_; rintro e w2 ⟨vb, jb0, bb, tb0, st0, rfl, hW0, hI0, hC0⟩)
    | (go_at_call 11; refine (known_any _).mono ?_; rintro e w3 ⟨rfl, hb3⟩))
  have hW0 := (Wk.of hW0).below hb3
  obtain ⟨m, hm⟩ : ∃ m, 1 + n % 10 = m := ⟨_, rfl⟩
  rw [hm] at hW0 hI0
  obtain ⟨B0, hB0⟩ : ∃ B0, BS.header (BS.blank m) (JS.blank 0) = B0 := ⟨_, rfl⟩
  have hs0 : B0.s = JS.blank 0 := by rw [← hB0]; exact header_s _ _
  rw [hB0] at hW0 hI0
  obtain ⟨S0, hS0⟩ : ∃ S0, JS.blank 0 = S0 := ⟨_, rfl⟩
  rw [hS0] at hW0 hs0
  have H0 := Lib.hid (And.intro hW0 (And.intro hI0 (And.intro hs0 hC0)))
  clear hW0 hI0 hs0 hC0 hB0 hS0 hb3 HM hm
  go_loopw [8, 10] (fun j i wr => ∃ (k jb tb : Nat) (S : JS) (st : VS) (B : BS), k ≤ l.length ∧ k ≤ 20 ∧ i = .int .i64 (k : Int) ∧ j = .pointer (some ⟨jb, 0, none⟩) ∧ Wk w wr vb jb bb tb S false st B [] ∧ Inv st B m (1 + k) ∧ B.s = S ∧ Calm st) (fun _ i _ => 20 - (intOf i).toNat)
  case atStart => exact ⟨0, jb0, tb0, S0, st0, B0, Nat.zero_le _, by omega, rfl, rfl, H0.out.1, H0.out.2.1, H0.out.2.2.1, H0.out.2.2.2⟩
  case round =>
    obtain ⟨k, jb, tb, S, st, B, hk, hk40, rfl, rfl, hW, hI, hs, hC⟩ := hrel
    clear H0
    by_cases hlt : k < l.length ∧ k < 20
    · obtain ⟨hlt, hlt4⟩ := hlt
      obtain ⟨b, off, cap', hv, hok, x0, x1, x2⟩ := op_cells HL.out hW.size hlt
      injection hv with hv1 hv2 hv3
      subst hv1 hv3
      clear hv2
      obtain ⟨o, ho⟩ : ∃ o, l[k] = o := ⟨_, rfl⟩
      rw [ho] at hok x0 x1 x2
      have hp := perform_calm o hok hW hI hs (by omega) hC
      unfold JO.val at hp
      have HP := Lib.hid hp
      clear hp hW hI hs hC ho
      go_wp2_with ((go_at_call 13; refine HP.out.mono ?_; rintro e w4 ⟨jb', tb', S', st', B', rfl, hW, hI, hs, hC⟩; have HX := Lib.hid (And.intro hW (And.intro hI (And.intro hs hC))); clear hW hI hs hC))
      go_roundw
      case rel => exact ⟨k + 1, jb', tb', S', st', B', by omega, by omega, by go_num, rfl, HX.out.1, by rw [show 1 + (k + 1) = 1 + k + 1 by omega]; exact HX.out.2.1, HX.out.2.2.1, HX.out.2.2.2⟩
      case measure => simp [intOf]; omega
    · have HR0 := Lib.hid (show ScR w vb jb bb tb m S B wr 0 st from ⟨Nat.zero_le _, hW, hC, hI.len, by rw [hI.pend]; exact Nat.le_refl _⟩)
      have hm1 := hI.m1
      have hm2 := hI.m2
      obtain ⟨M, hM⟩ : ∃ M, m + 2 = M := ⟨_, rfl⟩
      have hM3 : 3 ≤ M := by omega
      have HMM := Lib.hid hM
      clear hW hI hs hC hM
      by_cases hlt2 : k < l.length
      case' pos =>
        have hk4 : ¬ (k < 20) := fun h => hlt ⟨hlt2, h⟩
      all_goals
        go_wp2_with fail
        go_loopw [13] (fun i wr => ∃ (q : Nat) (st : VS), q ≤ L2 ∧ i = .int .i64 (q : Int) ∧ ScR w vb jb bb tb m S B wr q st) (fun i _ => 10 - (intOf i).toNat)
        case atStart => exact ⟨0, st, Nat.zero_le _, rfl, HR0.out⟩
        case round =>
          obtain ⟨q, st1, hq, rfl, hR⟩ := hrel
          clear HR0
          have hq10 := hR.q10
          by_cases hlt3 : q < L2 ∧ q < 10
          · obtain ⟨hqlt, hqlt4⟩ := hlt3
            have hq2 : q < l2.length := by rw [HD.out.2]; exact hqlt
            obtain ⟨b2, off2, c2, hv, hb2, hd, x0, x1, x2⟩ := d3_cells HD.out.1 (Below.refl _ w) hq2
            rw [HD.out.2] at hv
            injection hv with hv1 hv2 hv3
            subst hv1 hv3
            clear hv2
            obtain ⟨d, hde⟩ : ∃ d, l2[q] = d := ⟨_, rfl⟩
            rw [hde] at hd x0 x1 x2
            obtain ⟨d0, d1, d2⟩ := d
            simp only at hd x0 x1 x2
            obtain ⟨hd0, hd1, hd2⟩ := hd
            obtain ⟨y, hy⟩ : ∃ y : UInt8, y.toNat = d2 := ⟨UInt8.ofNat d2, by rw [UInt8.toNat_ofNat']; omega⟩
            subst hy
            have FX := Lib.hid (fun (w' : World) (hb : Below w.heap.size w w') => And.intro ((hb.cell (p := ⟨b2, _, none⟩) hb2).trans x0) (And.intro ((hb.cell (p := ⟨b2, _, none⟩) hb2).trans x1) ((hb.cell (p := ⟨b2, _, none⟩) hb2).trans x2)))
            clear x0 x1 x2 hde hq2
            obtain ⟨x0, x1, x2⟩ := FX.out wr hR.wk.size
            have hln := fun (n : Nat) => kvlen_at hR.wk n
            rw [hR.len, HMM.out] at hln
            have HLN := Lib.hid hln
            obtain ⟨t, ht⟩ : ∃ t, d0 % M = t := ⟨_, rfl⟩
            have htM : t < M := by rw [← ht]; exact Nat.mod_lt _ (by omega)
            have t0b : (d0 : Int) % (M : Int) = (t : Int) := by rw [← ht]; rfl
            have t0 : (d0 : Int).tmod (M : Int) = (t : Int) := by rw [Int.tmod_eq_emod_of_nonneg (by omega)]; exact t0b
            have z1 : ¬ (M = 0) := by omega
            have z2 : ¬ ((M : Int) = 0) := by omega
            have HR := Lib.hid hR
            have lwr : w.heap.size ≤ wr.heap.size := hR.wk.size.size
            clear hR hln ht
            go_wp2_with fail
            go_quiet ((go_at_call 36; refine (HLN.out _).mono ?_; rintro e w' ⟨rfl, rfl⟩; exact ⟨rfl, _, rfl⟩))
            have hW6 := HR.out.wk.below (below_drewN (n := nq) (Below.refl _ wr))
            obtain ⟨w6, hw6⟩ : ∃ w6, wr.drewN nq = w6 := ⟨_, rfl⟩
            rw [hw6] at hW6 ⊢
            clear hw6 x0 x1 x2 z1 z2 t0 t0b
            have hsec := HR.out.wk.wf.content t
            have hrd := fun (w' : World) (h : Wk w w' vb jb bb tb S false st1 B []) => kvread h HR.out.calm.2 (k := t) (by rw [HR.out.len, HMM.out]; exact htM)
            obtain ⟨sv, hsv⟩ : ∃ sv, st1.content t = sv := ⟨_, rfl⟩
            rw [hsv] at hsec hrd
            have HRD := Lib.hid hrd
            clear hrd hsv
            go_wp2_with ((go_at_call 37; refine (HRD.out _ hW6).mono ?_; rintro e w9 ⟨rfl, hW9⟩; obtain ⟨cap1, w10, hcap1, hconv, hb256, hbW⟩ := conv_bytes w9 sv hsec; clear hW6))
            have hW10 := hW9.below hbW
            obtain ⟨x0, x1, x2⟩ := FX.out _ hW10.size
            have y0 := hb256.cell hd1
            have f0 := hb256.frozen hd1
            have oI : (d1 : Int) < 256 := by omega
            have HB10 := Lib.hid hb256
            have HW9 := Lib.hid hW9
            have HBW := Lib.hid hbW
            clear hb256 hW10 hW9 hbW
            go_region
            have hW11 : Wk w (w10.setCell ⟨w9.heap.size, d1, none⟩ (.int .u8 (y.toNat : Int))).drew vb jb bb tb S false st1 B [] := by
              refine HW9.out.below ?_
              exact ((HBW.out.setCell (p := ⟨w9.heap.size, d1, none⟩) (Nat.le_refl _) _).drew)
            have hb11 := HB10.out.put hd1 y
            obtain ⟨w11, hw11⟩ : ∃ w11, (w10.setCell ⟨w9.heap.size, d1, none⟩ (.int .u8 (y.toNat : Int))).drew = w11 := ⟨_, rfl⟩
            rw [hw11] at hW11 hb11 ⊢
            have hcv := hb11.back (c := cap1)
            have hds : (⟨(sv.data.toList.set d1 y).toArray⟩ : ByteArray).size = 256 := by
              show (sv.data.toList.set d1 y).toArray.size = 256
              rw [List.size_toArray, List.length_set, Array.length_toList]
              exact hsec
            obtain ⟨nd, hnd⟩ : ∃ nd : ByteArray, ⟨(sv.data.toList.set d1 y).toArray⟩ = nd := ⟨_, rfl⟩
            rw [hnd] at hcv hds
            have hwc := VS.write_calm (st := st1) (k := t) (d := nd) HR.out.calm (by rw [HR.out.len, HMM.out]; exact htM) hds (by have := HR.out.pend; omega)
            have hwr := fun (w' : World) (h : Wk w w' vb jb bb tb S false st1 B []) => kvwrite h t nd
            obtain ⟨rw2, hrw⟩ : ∃ r, st1.write (t : Int) nd = r := ⟨_, rfl⟩
            rw [hrw] at hwc hwr
            obtain ⟨hz, hcalm, hdur, hpend⟩ := hwc
            have HN := Lib.hid (And.intro hcalm (And.intro (show rw2.2.dur.length = m + 2 by rw [hdur, HR.out.len]) (show rw2.2.pend.length ≤ q + 1 by rw [hpend, List.length_append]; have := HR.out.pend; simp; omega)))
            have HWR := Lib.hid hwr
            clear hwr hrw hz hcalm hdur hpend hnd hds hw11 hb11
            go_wp2_with ((go_at_call 38; refine (HWR.out _ hW11).mono ?_; rintro e w12 ⟨rfl, hW12⟩; have HW12 := Lib.hid hW12; clear hW11 hW12))
            go_roundw
            case rel => exact ⟨q + 1, _, by omega, by go_num, ⟨by omega, HW12.out, HN.out.1, HN.out.2.1, HN.out.2.2⟩⟩
            case measure => simp [intOf]; omega
          · have hks := kscan_any hR.wk hR.calm.2 hR.len hm1 hm2
            have hop0 := fun (w' : World) (f : Nat) (h : Vs w w' vb f st1) => sopen_none h hR.calm.2 hR.len hm1
            have hop1 := fun (w' : World) (f : Nat) (S' : JS) (h : Vs w w' vb f st1) => sopen_yes (S := S') h hR.calm.2 hR.len hm1 hm2
            have hwide := fun (S' : JS) => found_wide (S := S') hR.wk.wf hR.len hm2
            have hal : st1.area.length = 256 * m := by rw [hR.wk.wf.area, hR.len]; rfl
            have hag := fun (w' : World) (f jb' tb' : Nat) (S' : JS) (hw : S'.wide) (h : Wk w w' vb jb' f tb' S' false st1 ⟨st1.sct 0, st1.sct 1, st1.area, S'⟩ []) => kagrees_wide h rfl hal hR.len hm2 hw
            have HOP0 := Lib.hid hop0
            have HOP1 := Lib.hid hop1
            have HWD := Lib.hid hwide
            have HAG := Lib.hid hag
            clear hop0 hop1 hwide hag hal hR
            cases hf : st1.found with
            | none =>
              rw [hf] at hks
              simp only [Option.isSome_none] at hks
              have HKS := Lib.hid hks
              have HF := Lib.hid hf
              clear hks hf
              by_cases hlt4 : q < L2
              case' pos =>
                have hq4 : ¬ (q < 10) := fun h => hlt3 ⟨hlt4, h⟩
              all_goals
                go_wp2_with (first
                  | (go_at_call 19; refine HKS.out.mono ?_; rintro e w5 ⟨f, rfl, hV5⟩; have HV5 := Lib.hid hV5; clear hV5)
                  | (go_at_call 20; refine (HOP0.out _ _ HV5.out HF.out).mono ?_; rintro e w6 ⟨rfl, hb6⟩))
                go_ret
                exact ⟨rfl, hb6⟩
            | some S' =>
              rw [hf] at hks
              simp only [Option.isSome_some] at hks
              have HKS := Lib.hid hks
              have HF := Lib.hid hf
              clear hks hf
              by_cases hlt4 : q < L2
              case' pos =>
                have hq4 : ¬ (q < 10) := fun h => hlt3 ⟨hlt4, h⟩
              all_goals
                go_wp2_with (first
                  | (go_at_call 19; refine HKS.out.mono ?_; rintro e w5 ⟨f, rfl, hV5⟩; have HV5 := Lib.hid hV5; clear hV5)
                  | (go_at_call 20; refine (HOP1.out _ _ _ HV5.out HF.out).mono ?_; rintro e w6 ⟨jb', tb', rfl, hW6⟩; have HW6 := Lib.hid hW6; clear hW6)
                  | (go_at_call 15; refine (HAG.out _ _ _ _ _ (HWD.out _ HF.out) HW6.out).mono ?_; rintro e w7 ⟨rfl, hW7⟩))
                go_ret
                exact ⟨rfl, hW7.size⟩
end Go.Proofs.YtfdnpchbbngpjaaGreat
