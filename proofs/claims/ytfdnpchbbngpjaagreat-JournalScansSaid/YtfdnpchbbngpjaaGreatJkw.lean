/- A device, its journal and its book in one world; made; known. -/
import Derived.Test.YtfdnpchbbngpjaaGreatJcm
import Derived.Test.YtfdnpchbbngpjaaGreatJbc
import Derived.Test.YtfdnpchbbngpjaaGreatJbl
import Derived.Test.YtfdnpchbbngpjaaGreatJbi
import Derived.Test.YtfdnpchbbngpjaaGreatJoq
import Derived.Test.YtfdnpchbbngpjaaGreatJpb
namespace Go.Proofs.YtfdnpchbbngpjaaGreat
open Go.RowKit Go.Maps

/-- device vb, journal jb, book bb, table tb, all laid since w0, apart from one another -/
def Wd (w0 w : World) (vb jb bb tb : Nat) (S : JS) (br : Bool) (st : VS) (B : BS) : Prop :=
  ∃ rv hen F G, JV w jb vb tb S br rv hen st F ∧ BkF w bb B G ∧ (∀ i, i ∈ jvfoot jb tb rv F → i ∉ G ∧ w0.heap.size ≤ i) ∧ (∀ i, i ∈ G → w0.heap.size ≤ i) ∧ Below w0.heap.size w0 w
section
variable {w0 w w' : World} {vb jb bb tb : Nat} {S S' : JS} {br br' : Bool} {st st' : VS} {B B' : BS}
theorem Wd.below (h : Wd w0 w vb jb bb tb S br st B) (hb : Below w.heap.size w w') : Wd w0 w' vb jb bb tb S br st B := by
  obtain ⟨rv, hen, F, G, h1, h2, h3, h4, h5⟩ := h
  exact ⟨rv, hen, F, G, h1.below hb, h2.below hb, h3, h4, h5.trans (hb.mono h5.size)⟩
theorem Wd.size (h : Wd w0 w vb jb bb tb S br st B) : Below w0.heap.size w0 w := by
  obtain ⟨_, _, _, _, _, _, _, _, h5⟩ := h
  exact h5
theorem Wd.stepV (h : Wd w0 w vb jb bb tb S br st B) (hs : ∀ rv hen F, JV w jb vb tb S br rv hen st F → StepV w w' jb vb tb rv F S' br' st') : Wd w0 w' vb jb bb tb S' br' st' B := by
  obtain ⟨rv, hen, F, G, h1, h2, h3, h4, h5⟩ := h
  obtain ⟨rv', hen', F', k1, k2, k3⟩ := hs rv hen F h1
  refine ⟨rv', hen', F', G, k1, h2.turn k2 (fun i hi hi2 => (h3 i hi2).1 hi), fun i hi => ?_, h4, h5.trans (k2.toBelow (fun i hi => (h3 i hi).2) h5.size)⟩
  rcases k3 i hi with e | e
  · exact h3 i e
  · refine ⟨fun hg => ?_, Nat.le_trans h5.size e⟩
    have := h2.lt i hg
    omega
theorem Wd.stepB (h : Wd w0 w vb jb bb tb S br st B) (hs : ∀ G, BkF w bb B G → BStep G w w' bb B') : Wd w0 w' vb jb bb tb S br st B' := by
  obtain ⟨rv, hen, F, G, h1, h2, h3, h4, h5⟩ := h
  obtain ⟨G', k1, k2, k3⟩ := hs G h2
  refine ⟨rv, hen, F, G', h1.turn k2 (fun i hi => (h3 i hi).1), k1, fun i hi => ⟨fun hg => ?_, (h3 i hi).2⟩, fun i hi => ?_, h5.trans (k2.toBelow h4 h5.size)⟩
  · rcases k3 i hg with e | e
    · exact (h3 i hi).1 e
    · have := h1.lt i hi; omega
  · rcases k3 i hi with e | e
    · exact h4 i e
    · exact Nat.le_trans h5.size e
theorem JV.stepJ {rv : Value} {hen : Nat} {F : List Nat} (h : JV w jb vb tb S br rv hen st F) (hs : StepJ w w' jb vb tb rv hen S' br') : StepV w w' jb vb tb rv F S' br' st := by
  obtain ⟨rv', k1, k2, k3⟩ := hs
  have hlt := h.lt
  refine ⟨rv', hen, F, ⟨k1, h.v.turn k2 (fun i hi hj => h.jF i hj hi), Blk.turn h.t k2 h.jt, fun i hi hi2 => ?_, fun hi => ?_, h.tF⟩, k2.mono (fun i hi => by simp [jvfoot, hi]), fun i hi => ?_⟩
  · rcases k3 i hi with e | e
    · exact h.jF i e hi2
    · have := hlt i (by simp [jvfoot, hi2]); omega
  · rcases k3 _ hi with e | e
    · exact h.jt e
    · have := hlt tb (by simp [jvfoot]); omega
  · unfold jvfoot at hi ⊢
    rcases List.mem_cons.1 hi with rfl | hi
    · exact .inl (by simp)
    rcases List.mem_append.1 hi with hi | hi
    · rcases k3 i hi with e | e
      · exact .inl (by simp [e])
      · exact .inr e
    · exact .inl (by simp [hi])
end
/-- the records of a list that is well formed lie in bounds -/
theorem JS.wf.recs_bound {S : JS} {n c : Nat} (h : S.wf n c) (hc : c ≤ 1048576) : ∀ r, r ∈ S.recs → r.1 + 16 + r.2.size ≤ 1125899906842624 ∧ r.2.size ≤ 65536 := by
  intro r hr
  obtain ⟨i, hi⟩ := List.getElem?_of_mem hr
  obtain ⟨h1, h2, h3⟩ := chain_get h.chain hi
  have h4 := h.pos
  have : rend S.beg S.recs = S.next := rfl
  exact ⟨by omega, h2⟩
section
variable {w0 w : World} {vb jb bb tb : Nat} {S : JS} {st : VS} {B : BS} {m c : Nat}
/-- the journal's Append -/
theorem wappend (d : ByteArray) (h : Wd w0 w vb jb bb tb S false st B) (hm : st.dur.length = m + 2) (hS : S.wf (256 * m) c) (hc : c ≤ 1048576) :
    Calls Tryz.prog 23 #[.pointer (some ⟨jb, 0, none⟩), .string d] w fun e w' => e = .returned (.tuple #[.int .i64 (S.append (256 * m) d).1, .int .i64 ((S.append (256 * m) d).2.1 : Int)]) ∧ Wd w0 w' vb jb bb tb (S.append (256 * m) d).2.2 false st B := by
  have h' := h
  obtain ⟨rv, hen, F, G, h1, h2, h3, h4, h5⟩ := h'
  refine (jappend_any d h1.j h1.v hm hS hc).mono ?_
  rintro e w' ⟨rfl, hs⟩
  have hV := h1.stepJ hs
  obtain ⟨rv', hen', F', k1, k2, k3⟩ := hV
  refine ⟨rfl, rv', hen', F', G, k1, h2.turn k2 (fun i hi hi2 => (h3 i hi2).1 hi), fun i hi => ?_, h4, h5.trans (k2.toBelow (fun i hi => (h3 i hi).2) h5.size)⟩
  rcases k3 i hi with e | e
  · exact h3 i e
  · refine ⟨fun hg => ?_, Nat.le_trans h5.size e⟩
    have := h2.lt i hg
    omega
/-- the journal's Commit, where there is something to commit -/
theorem wcommit (h : Wd w0 w vb jb bb tb S false st B) (hd : st.down = false) (hl : st.dur.length = m + 2) (hm : 1 ≤ m) (hm2 : m ≤ 64) (hS : S.wf (256 * m) c) (hc : c + 1 ≤ 1048576) (hlt : S.comm < S.recs.length) :
    Calls Tryz.prog 16 #[.pointer (some ⟨jb, 0, none⟩)] w fun e w' => ∃ L, RingOK st.area (puts st.area (S.first + S.comm) (S.recs.drop S.comm)) m L ∧ e = .returned (.int .i64 ((st.commitV L S.commit.hd).1 : Int)) ∧
      Wd w0 w' vb jb bb tb (if (st.commitV L S.commit.hd).1 = 0 then S.commit else S) ((st.commitV L S.commit.hd).1 == 36) (st.commitV L S.commit.hd).2 B := by
  obtain ⟨rv, hen, F, G, h1, h2, h3, h4, h5⟩ := h
  refine (commit_go h1 hd hl hm hm2 hS hc hlt).mono ?_
  rintro e w' ⟨L, hL, rfl, rv', hen', F', k1, k2, k3⟩
  refine ⟨L, hL, rfl, rv', hen', F', G, k1, h2.turn k2 (fun i hi hi2 => (h3 i hi2).1 hi), fun i hi => ?_, h4, h5.trans (k2.toBelow (fun i hi => (h3 i hi).2) h5.size)⟩
  rcases k3 i hi with e | e
  · exact h3 i e
  · refine ⟨fun hg => ?_, Nat.le_trans h5.size e⟩
    have := h2.lt i hg
    omega
end
section
variable {w0 w : World} {vb jb bb tb : Nat} {S : JS} {br : Bool} {st : VS} {B : BS} {m c : Nat}
/-- the book's append -/
theorem wbappend (d : ByteArray) (h : Wd w0 w vb jb bb tb S br st B) (hA : B.area.length = 256 * m) (hm2 : m ≤ 64) (hS : B.s.wf (256 * m) c) (hc : c ≤ 1048575) :
    Calls Tryz.prog 25 #[.pointer (some ⟨bb, 0, none⟩), .string d] w fun e w' => e = .returned (.tuple #[.int .i64 (B.append d).1, .int .i64 ((B.append d).2.1 : Int)]) ∧ Wd w0 w' vb jb bb tb S br st (B.append d).2.2 := by
  have hn := hS.nums
  have hp := hS.pos
  have h1 := hS.en_le
  have h2 := hS.beg_le
  have hb := hS.recs_bound (by omega)
  have hco := hS.comm
  have h' := h
  obtain ⟨rv, hen, F, G, j1, j2, j3, j4, j5⟩ := h'
  refine (bappend_any d j2 hco (by omega) (fun r hr => (hb r hr).1) (by omega) (by omega) (by omega) (by omega)).mono ?_
  rintro e w' ⟨rfl, G', k1, k2, k3⟩
  refine ⟨rfl, rv, hen, F, G', j1.turn k2 (fun i hi => (j3 i hi).1), k1, fun i hi => ⟨fun hg => ?_, (j3 i hi).2⟩, fun i hi => ?_, j5.trans (k2.toBelow j4 j5.size)⟩
  · rcases k3 i hg with e | e
    · exact (j3 i hi).1 e
    · have := j1.lt i hi; omega
  · rcases k3 i hi with e | e
    · exact j4 i e
    · exact Nat.le_trans j5.size e
/-- the book's commit, where there is something to commit -/
theorem wbcommit (h : Wd w0 w vb jb bb tb S br st B) (hA : B.area.length = 256 * m) (hm : 1 ≤ m) (hm2 : m ≤ 64) (hS : B.s.wf (256 * m) c) (hc : c ≤ 1048576) (hlt : B.s.comm < B.s.recs.length) :
    Calls Tryz.prog 34 #[.pointer (some ⟨bb, 0, none⟩)] w fun e w' => e = .returned (.tuple #[]) ∧ Wd w0 w' vb jb bb tb S br st B.commit := by
  have hn := hS.nums
  have hp := hS.pos
  have h1 := hS.en_le
  have h2 := hS.beg_le
  have hhb := hS.h
  have hb := hS.recs_bound hc
  obtain ⟨rv, hen, F, G, j1, j2, j3, j4, j5⟩ := h
  refine (bcommit_go j2 hlt (by omega) (by omega) (by omega) (by omega) (by omega) hb (by omega) (by omega)).mono ?_
  rintro e w' ⟨rfl, G', k1, k2, k3⟩
  refine ⟨rfl, rv, hen, F, G', j1.turn k2 (fun i hi => (j3 i hi).1), k1, fun i hi => ⟨fun hg => ?_, (j3 i hi).2⟩, fun i hi => ?_, j5.trans (k2.toBelow j4 j5.size)⟩
  · rcases k3 i hg with e | e
    · exact (j3 i hi).1 e
    · have := j1.lt i hi; omega
  · rcases k3 i hi with e | e
    · exact j4 i e
    · exact Nat.le_trans j5.size e
/-- the device has the book's sectors -/
theorem wimage (h : Wd w0 w vb jb bb tb S br st B) (hI : Inv st B m c) :
    Calls Tryz.prog 22 #[.pointer (some ⟨bb, 0, none⟩), .pointer (some ⟨vb, 0, none⟩)] w fun e w' => e = .returned (.bool true) ∧ Wd w0 w' vb jb bb tb S br st B := by
  have h' := h
  obtain ⟨rv, hen, F, G, j1, j2, j3, j4, j5⟩ := h'
  refine (bimage_any j2 j1.v hI.up hI.len hI.m2 hI.h0 hI.h1 hI.area).mono ?_
  rintro e w' ⟨rfl, hb⟩
  exact ⟨rfl, h.below hb⟩
end
end Go.Proofs.YtfdnpchbbngpjaaGreat
namespace Go.Proofs.YtfdnpchbbngpjaaGreat
open Go.RowKit Go.Maps

theorem blank_header (m : Nat) : BS.header (BS.blank m) (BS.blank m).bump.s = BS.header (BS.blank m) (JS.blank 0) := rfl
set_option maxRecDepth 100000 in
set_option maxHeartbeats 4000000 in
theorem made_any (m : Nat) (h1 : 1 ≤ m) (h2 : m ≤ 64) (w : World) :
    Calls Tryz.prog 9 #[.int .i64 ((m : Int) + 2)] w fun e w' => ∃ vb jb bb tb st, e = .returned (.tuple #[.pointer (some ⟨vb, 0, none⟩), .pointer (some ⟨jb, 0, none⟩), .pointer (some ⟨bb, 0, none⟩)]) ∧
      Wd w w' vb jb bb tb (JS.blank 0) false st (BS.header (BS.blank m) (JS.blank 0)) ∧ Inv st (BS.header (BS.blank m) (JS.blank 0)) m 1 ∧ Calm st := by
  obtain ⟨hz, hI, hC⟩ := format_new m h1 h2
  have hlen : (VS.new (m + 2)).dur.length = m + 2 := List.length_replicate
  have hnf := new_found m h1
  have hf := hI.found
  have hrs : (BS.header (BS.blank m) (JS.blank 0)).s.reopen = JS.blank 0 := rfl
  rw [hrs] at hf
  have hfm : ∀ (w1 : World) (vb : Nat) (F : List Nat), VolF w1 vb (VS.new (m + 2)) F → Calls Tryz.prog 31 #[.pointer (some ⟨vb, 0, none⟩)] w1 fun e w' => e = .returned (.int .i64 0) ∧ Step F w1 w' vb ((VS.new (m + 2)).putHd (JS.blank 0).hd).2 := by
    intro w1 vb F hV
    have := format_any hV rfl hlen h1 (by rw [hnf]; decide)
    rw [hnf] at this
    refine this.mono ?_
    rintro e w' ⟨rfl, hs⟩
    refine ⟨?_, hs⟩
    show Ending.returned (Value.int .i64 (((VS.new (m + 2)).putHd (JS.blank 0).hd).1 : Int)) = _
    rw [hz]
    rfl
  obtain ⟨st, hst⟩ : ∃ st, ((VS.new (m + 2)).putHd (JS.blank 0).hd).2 = st := ⟨_, rfl⟩
  rw [hst] at hI hC hf hfm
  have HFM := Lib.hid hfm
  have HIC := Lib.hid (And.intro hI (And.intro hC (And.intro hf (And.intro hz (And.intro hst hnf)))))
  clear hI hC hf hz hst hnf hlen hrs hfm
  go_enter Tryz.func9, Tryz.ntmps9
  go_wp2_with (first
    | (go_at_call 30; refine (new_yes (m + 2) w (by omega) (by omega)).mono ?_; rintro e w1 ⟨vb, F, rfl, hV, hb1, hF⟩)
    | (go_at_call 31; refine (HFM.out w1 vb F hV).mono ?_; rintro e w2 ⟨rfl, F2, hV2, ht2, hf2⟩)
    | (go_at_call 20; refine (open_yes hV2 HIC.out.1.up HIC.out.1.len h1 h2 HIC.out.2.2.1).mono ?_; rintro e w3 ⟨jb, tb, rv, hen, rfl, hj3, hT3, hb3, htb, hjf⟩)
    | (go_at_call 32; refine (blank_any m h2 _).mono ?_; rintro e w4 ⟨bb, G, rfl, hB4, hb4, hG⟩)
    | (go_at_call 33; refine (bheader_any hB4 (by show 0 ≤ _; omega) (by show 1 ≤ _; omega) (by show 0 ≤ _; omega) (by show 0 ≤ _; omega) (by show 0 ≤ _; omega) (by show 0 ≤ _; omega) (fun r hr => by cases hr)).mono ?_; rw [blank_header]; rintro e w5 ⟨rfl, G5, hB5, ht5, hf5⟩))
  go_ret3
  have b2 : Below w.heap.size w w2 := hb1.trans (ht2.toBelow hF hb1.size)
  have b3 : Below w.heap.size w w3 := b2.trans (hb3.mono b2.size)
  have b4 : Below w.heap.size w w4 := b3.trans (hb4.mono b3.size)
  have b5 : Below w.heap.size w w5 := b4.trans (ht5.toBelow (fun i hi => Nat.le_trans b3.size (hG i hi)) b4.size)
  have hJV : JV w3 jb vb tb (JS.blank 0) false rv hen st F2 := ⟨hj3, hV2.below hb3, hT3, fun i hi hi2 => by
    have h3 := (hjf i hi).1
    have h4 := hV2.lt i hi2
    omega, fun hi => (hjf tb hi).2 rfl, fun hi => by have h4 := hV2.lt tb hi; omega⟩
  have hlt := hJV.lt
  refine ⟨vb, jb, bb, tb, st, rfl, ⟨rv, hen, F2, G5, (hJV.below hb4).turn ht5 (fun i hi hi2 => by have h3 := hlt i hi; have h4 := hG i hi2; omega), hB5, fun i hi => ⟨fun hi2 => ?_, ?_⟩, fun i hi => ?_, b5⟩, HIC.out.1, HIC.out.2.1⟩
  · have h3 := hlt i hi
    rcases hf5 i hi2 with e | e
    · have h4 := hG i e; omega
    · have h4 := hb4.size; omega
  · unfold jvfoot at hi
    rcases List.mem_cons.1 hi with rfl | hi
    · exact Nat.le_trans b2.size htb
    rcases List.mem_append.1 hi with hi | hi
    · exact Nat.le_trans b2.size (hjf i hi).1
    · rcases hf2 i hi with e | e
      · exact hF i e
      · exact Nat.le_trans hb1.size e
  · rcases hf5 i hi with e | e
    · exact Nat.le_trans b3.size (hG i e)
    · exact Nat.le_trans b4.size e
/-- the two records of the example -/
def kA : ByteArray := ⟨#[97]⟩
def kB : ByteArray := ⟨#[98, 99]⟩
def kS1 : JS := ⟨1, 1, 0, [(0, kA)], 0⟩
def kS2 : JS := ⟨1, 1, 0, [(0, kA), (17, kB)], 0⟩
theorem k1 : (JS.blank 0).append (256 * 2) kA = (1, 0, kS1) := by
  unfold JS.append
  rw [if_neg (by decide), if_neg (by decide +kernel)]
  rfl
theorem k2 : kS1.append (256 * 2) kB = (2, 0, kS2) := by
  unfold JS.append
  rw [if_neg (by decide), if_neg (by decide +kernel)]
  rfl
theorem kfree : (kS2.commit).free (256 * 2) = 461 := by decide +kernel
theorem kdur : (kS2.commit).durable = 2 := by decide +kernel
section
variable {w0 w : World} {vb jb bb tb : Nat} {st : VS} {B : BS}
theorem kw0 : (JS.blank 0).wf (256 * 2) 1 := JS.blank_wf _ _ _ (Nat.le_refl _)
theorem kw1 : kS1.wf (256 * 2) 2 := by
  have := kw0.append (by decide) kA
  rw [k1] at this
  exact this
theorem kw2 : kS2.wf (256 * 2) 3 := by
  have := kw1.append (by decide) kB
  rw [k2] at this
  exact this
theorem kn_A1 (h : Wd w0 w vb jb bb tb (JS.blank 0) false st B) (hl : st.dur.length = 2 + 2) :
    Calls Tryz.prog 23 #[.pointer (some ⟨jb, 0, none⟩), .string ⟨#[97]⟩] w fun e w' => e = .returned (.tuple #[.int .i64 1, .int .i64 0]) ∧ Wd w0 w' vb jb bb tb kS1 false st B := by
  have := wappend kA h hl kw0 (by decide)
  rw [k1] at this
  exact this
theorem kn_A2 (h : Wd w0 w vb jb bb tb kS1 false st B) (hl : st.dur.length = 2 + 2) :
    Calls Tryz.prog 23 #[.pointer (some ⟨jb, 0, none⟩), .string ⟨#[98, 99]⟩] w fun e w' => e = .returned (.tuple #[.int .i64 2, .int .i64 0]) ∧ Wd w0 w' vb jb bb tb kS2 false st B := by
  have := wappend kB h hl kw1 (by decide)
  rw [k2] at this
  exact this
theorem kn_I (hs : B.s = JS.blank 0) (hI : Inv st B 2 1) : (B.append kA) = (1, 0, { B with s := kS1 }) ∧ Inv st { B with s := kS1 } 2 2 ∧ (BS.append { B with s := kS1 } kB) = (2, 0, { B with s := kS2 }) ∧ Inv st { B with s := kS2 } 2 3 := by
  have hA := hI.alen
  have e1 : (B.append kA) = (1, 0, { B with s := kS1 }) := by
    unfold BS.append
    rw [hA, hs, k1]
  have i1 := hI.append (by decide) kA
  rw [e1] at i1
  have e2 : (BS.append { B with s := kS1 } kB) = (2, 0, { B with s := kS2 }) := by
    unfold BS.append
    rw [show ({ B with s := kS1 } : BS).area.length = 256 * 2 from hA, show ({ B with s := kS1 } : BS).s = kS1 from rfl, k2]
  have i2 := Inv.append i1 (by decide) kB
  rw [e2] at i2
  exact ⟨e1, i1, e2, i2⟩
theorem kn_C {C : BS} (h : Wd w0 w vb jb bb tb kS2 false st B) (hI : Inv st C 2 3) (hs : C.s = kS2) (hC : Calm st) :
    Calls Tryz.prog 16 #[.pointer (some ⟨jb, 0, none⟩)] w fun e w' => ∃ st', e = .returned (.int .i64 0) ∧ Wd w0 w' vb jb bb tb kS2.commit false st' B ∧ Inv st' C.commit 2 4 := by
  refine (wcommit h hI.up hI.len (by decide) (by decide) kw2 (by decide) (by decide)).mono ?_
  rintro e w' ⟨L, hL, rfl, hW⟩
  have hL' : RingOK C.area C.put 2 L := by
    rw [← hI.area]
    unfold BS.put
    rw [hs, ← hI.area]
    exact hL
  have hok := hI.commit_ok (by decide) (by rw [hs]; decide) hL'
  rw [hs] at hok
  have hcalm := (hC.commitV L kS2.commit.hd).2
  rcases hok with ⟨a, b⟩ | ⟨a, _⟩
  · rw [a] at hW
    refine ⟨_, by rw [a]; rfl, hW, b⟩
  · exact absurd a hcalm
theorem kn_B1 (h : Wd w0 w vb jb bb tb kS2.commit false st B) (hA : B.area.length = 256 * 2) (hs : B.s = JS.blank 0) (e : (B.append kA) = (1, 0, { B with s := kS1 })) :
    Calls Tryz.prog 25 #[.pointer (some ⟨bb, 0, none⟩), .string ⟨#[97]⟩] w fun e w' => e = .returned (.tuple #[.int .i64 1, .int .i64 0]) ∧ Wd w0 w' vb jb bb tb kS2.commit false st { B with s := kS1 } := by
  have := wbappend kA h hA (by decide) (by rw [hs]; exact kw0) (by decide)
  rw [e] at this
  exact this
theorem kn_B2 (h : Wd w0 w vb jb bb tb kS2.commit false st { B with s := kS1 }) (hA : B.area.length = 256 * 2) (e : (BS.append { B with s := kS1 } kB) = (2, 0, { B with s := kS2 })) :
    Calls Tryz.prog 25 #[.pointer (some ⟨bb, 0, none⟩), .string ⟨#[98, 99]⟩] w fun e w' => e = .returned (.tuple #[.int .i64 2, .int .i64 0]) ∧ Wd w0 w' vb jb bb tb kS2.commit false st { B with s := kS2 } := by
  have := wbappend kB h hA (by decide) kw1 (by decide)
  rw [e] at this
  exact this
theorem kn_B3 (h : Wd w0 w vb jb bb tb kS2.commit false st { B with s := kS2 }) (hA : B.area.length = 256 * 2) :
    Calls Tryz.prog 34 #[.pointer (some ⟨bb, 0, none⟩)] w fun e w' => e = .returned (.tuple #[]) ∧ Wd w0 w' vb jb bb tb kS2.commit false st (BS.commit { B with s := kS2 }) :=
  wbcommit h hA (by decide) (by decide) kw2 (by decide) (by show kS2.comm < kS2.recs.length; decide)
theorem kn_F (h : Wd w0 w vb jb bb tb kS2.commit false st B) (hl : st.dur.length = 2 + 2) :
    Calls Tryz.prog 26 #[.pointer (some ⟨jb, 0, none⟩)] w fun e w' => e = .returned (.int .i64 461) ∧ Wd w0 w' vb jb bb tb kS2.commit false st B := by
  have h' := h
  obtain ⟨rv, hen, F, G, j1, j2, j3, j4, j5⟩ := h'
  have := free_any j1.j j1.v hl (by decide) (by decide)
  rw [kfree] at this
  refine this.mono ?_
  rintro e w' ⟨rfl, n, rfl⟩
  exact ⟨rfl, h.below (below_drewN (Below.refl _ _))⟩
theorem kn_D (h : Wd w0 w vb jb bb tb kS2.commit false st B) :
    Calls Tryz.prog 41 #[.pointer (some ⟨jb, 0, none⟩)] w fun e w' => e = .returned (.int .i64 2) ∧ Wd w0 w' vb jb bb tb kS2.commit false st B := by
  have h' := h
  obtain ⟨rv, hen, F, G, j1, j2, j3, j4, j5⟩ := h'
  have := durable_any j1.j (by decide) (by decide)
  rw [kdur] at this
  refine this.mono ?_
  rintro e w' ⟨rfl, n, rfl⟩
  exact ⟨rfl, h.below (below_drewN (Below.refl _ _))⟩
end
set_option maxRecDepth 100000 in
set_option maxHeartbeats 8000000 in
theorem known_any (w : World) : Calls Tryz.prog 11 #[] w fun e w' => e = .returned (.bool true) ∧ Below w.heap.size w w' := by
  have hmd := made_any 2 (by decide) (by decide)
  obtain ⟨B0, hB0⟩ : ∃ B0, BS.header (BS.blank 2) (JS.blank 0) = B0 := ⟨_, rfl⟩
  have hs0 : B0.s = JS.blank 0 := by rw [← hB0]; rfl
  rw [hB0] at hmd
  have HM := Lib.hid hmd
  have e4 : ((2 : Nat) : Int) + 2 = 4 := rfl
  rw [e4] at HM
  clear hmd
  go_enter Tryz.func11, Tryz.ntmps11
  go_wp2_with (first
    | (go_at_call 9; refine (HM.out w).mono ?_; rintro e w1 ⟨vb, jb, bb, tb, st, rfl, hW1, hI, hC⟩; obtain ⟨q1, q2, q3, q4⟩ := kn_I hs0 hI; have hl := hI.len; have hA := hI.alen)
    | (go_at_call_of 23 (Value.string (⟨#[97]⟩ : ByteArray)); refine (kn_A1 hW1 hl).mono ?_; rintro e w2 ⟨rfl, hW2⟩)
    | (go_at_call_of 23 (Value.string (⟨#[98, 99]⟩ : ByteArray)); refine (kn_A2 hW2 hl).mono ?_; rintro e w3 ⟨rfl, hW3⟩)
    | (go_at_call 16; refine (kn_C hW3 q4 rfl hC).mono ?_; rintro e w4 ⟨st', rfl, hW4, hI4⟩)
    | (go_at_call_of 25 (Value.string (⟨#[97]⟩ : ByteArray)); refine (kn_B1 hW4 hA hs0 q1).mono ?_; rintro e w5 ⟨rfl, hW5⟩)
    | (go_at_call_of 25 (Value.string (⟨#[98, 99]⟩ : ByteArray)); refine (kn_B2 hW5 hA q3).mono ?_; rintro e w6 ⟨rfl, hW6⟩)
    | (go_at_call 34; refine (kn_B3 hW6 hA).mono ?_; rintro e w7 ⟨rfl, hW7⟩)
    | (go_at_call 26; refine (kn_F hW7 hI4.len).mono ?_; rintro e w8 ⟨rfl, hW8⟩)
    | (go_at_call 41; refine (kn_D hW8).mono ?_; rintro e w9 ⟨rfl, hW9⟩)
    | (go_at_call 22; refine (wimage hW9 hI4).mono ?_; rintro e w10 ⟨rfl, hW10⟩))
  go_ret
  exact ⟨rfl, hW10.size⟩
end Go.Proofs.YtfdnpchbbngpjaaGreat
