/- Device, journal and book in one world, with other blocks kept beside them; perform; rows' arguments opened. -/
import Derived.Test.YtfdnpchbbngpjaaJkw
import Derived.Test.YtfdnpchbbngpjaaJcm
import Derived.Test.YtfdnpchbbngpjaaJni
import Derived.IntWalk
import Derived.Deep.Slices
import Derived.ChangeSame
import Derived.ProofKit
import Derived.OpenShut
namespace Go.Proofs.Ytfdnpchbbngpjaa
open Go.RowKit Go.Maps

/-- as Wd, and the blocks X lie beside -/
def Wk (w0 w : World) (vb jb bb tb : Nat) (S : JS) (br : Bool) (st : VS) (B : BS) (X : List (Nat × Obj)) : Prop :=
  ∃ rv hen F G, JV w jb vb tb S br rv hen st F ∧ BkF w bb B G ∧ (∀ i, i ∈ jvfoot jb tb rv F → i ∉ G ∧ w0.heap.size ≤ i) ∧ (∀ i, i ∈ G → w0.heap.size ≤ i) ∧ Below w0.heap.size w0 w ∧
    ∀ x, x ∈ X → w.heap[x.1]? = some x.2 ∧ x.1 ∉ jvfoot jb tb rv F ∧ x.1 ∉ G
section
variable {w0 w w' : World} {vb jb bb tb : Nat} {S S' : JS} {br br' : Bool} {st st' : VS} {B B' : BS} {X Y : List (Nat × Obj)} {m c : Nat}
theorem Wk.of (h : Wd w0 w vb jb bb tb S br st B) : Wk w0 w vb jb bb tb S br st B [] := by
  obtain ⟨rv, hen, F, G, h1, h2, h3, h4, h5⟩ := h
  exact ⟨rv, hen, F, G, h1, h2, h3, h4, h5, fun x hx => by cases hx⟩
theorem Wk.size (h : Wk w0 w vb jb bb tb S br st B X) : Below w0.heap.size w0 w := by
  obtain ⟨_, _, _, _, _, _, _, _, h5, _⟩ := h
  exact h5
theorem Wk.sub (h : Wk w0 w vb jb bb tb S br st B X) (hs : ∀ x, x ∈ Y → x ∈ X) : Wk w0 w vb jb bb tb S br st B Y := by
  obtain ⟨rv, hen, F, G, h1, h2, h3, h4, h5, h6⟩ := h
  exact ⟨rv, hen, F, G, h1, h2, h3, h4, h5, fun x hx => h6 x (hs x hx)⟩
theorem heap_lt {w : World} {g : Nat} {o : Obj} (h : w.heap[g]? = some o) : g < w.heap.size := (Array.getElem?_eq_some_iff.1 h).1
theorem Wk.below (h : Wk w0 w vb jb bb tb S br st B X) (hb : Below w.heap.size w w') : Wk w0 w' vb jb bb tb S br st B X := by
  obtain ⟨rv, hen, F, G, h1, h2, h3, h4, h5, h6⟩ := h
  exact ⟨rv, hen, F, G, h1.below hb, h2.below hb, h3, h4, h5.trans (hb.mono h5.size), fun x hx => ⟨(hb.block x.1 (heap_lt (h6 x hx).1)).trans (h6 x hx).1, (h6 x hx).2⟩⟩
/-- a block that was just laid is kept from now on -/
theorem Wk.alloc (h : Wk w0 w vb jb bb tb S br st B X) (o : Obj) : Wk w0 (w.alloc o) vb jb bb tb S br st B ((w.heap.size, o) :: X) := by
  have hb : Below w.heap.size w (w.alloc o) := (Below.refl _ w).alloc (Nat.le_refl _) _
  obtain ⟨rv, hen, F, G, h1, h2, h3, h4, h5, h6⟩ := h.below hb
  obtain ⟨rv, hen, F, G, k1, k2, k3, k4, k5, k6⟩ := h
  refine ⟨rv, hen, F, G, k1.below hb, k2.below hb, k3, k4, k5.trans (hb.mono k5.size), fun x hx => ?_⟩
  rcases List.mem_cons.1 hx with rfl | hx
  · exact ⟨heap_alloc_new w o, fun hi => Nat.lt_irrefl _ (k1.lt _ hi), fun hi => Nat.lt_irrefl _ (k2.lt _ hi)⟩
  · exact ⟨(hb.block x.1 (heap_lt (k6 x hx).1)).trans (k6 x hx).1, (k6 x hx).2⟩
/-- a block from before is kept -/
theorem Wk.old (h : Wk w0 w vb jb bb tb S br st B X) {g : Nat} {o : Obj} (hg : w0.heap[g]? = some o) : Wk w0 w vb jb bb tb S br st B ((g, o) :: X) := by
  obtain ⟨rv, hen, F, G, k1, k2, k3, k4, k5, k6⟩ := h
  refine ⟨rv, hen, F, G, k1, k2, k3, k4, k5, fun x hx => ?_⟩
  rcases List.mem_cons.1 hx with rfl | hx
  · have hl := heap_lt hg
    exact ⟨(k5.block g hl).trans hg, fun hi => by have := (k3 _ hi).2; omega, fun hi => by have := k4 _ hi; omega⟩
  · exact k6 x hx
theorem Wk.blk {g : Nat} {t : TypeId} {cs : Array Value} (h : Wk w0 w vb jb bb tb S br st B X) (hx : (g, Obj.cells cs t (0, 0)) ∈ X) : Blk w g t cs := by
  obtain ⟨_, _, _, _, _, _, _, _, _, k6⟩ := h
  exact (k6 _ hx).1
theorem Wk.toV {rv : Value} {hen : Nat} {F G : List Nat} (_k1 : JV w jb vb tb S br rv hen st F) (k2 : BkF w bb B G) (k3 : ∀ i, i ∈ jvfoot jb tb rv F → i ∉ G ∧ w0.heap.size ≤ i) (k4 : ∀ i, i ∈ G → w0.heap.size ≤ i) (k5 : Below w0.heap.size w0 w)
    (k6 : ∀ x, x ∈ X → w.heap[x.1]? = some x.2 ∧ x.1 ∉ jvfoot jb tb rv F ∧ x.1 ∉ G) (hs : StepV w w' jb vb tb rv F S' br' st') : Wk w0 w' vb jb bb tb S' br' st' B X := by
  obtain ⟨rv', hen', F', j1, j2, j3⟩ := hs
  refine ⟨rv', hen', F', G, j1, k2.turn j2 (fun i hi hi2 => (k3 i hi2).1 hi), fun i hi => ?_, k4, k5.trans (j2.toBelow (fun i hi => (k3 i hi).2) k5.size), fun x hx => ⟨(j2.block x.1 (heap_lt (k6 x hx).1) (k6 x hx).2.1).trans (k6 x hx).1, fun hi => ?_, (k6 x hx).2.2⟩⟩
  · rcases j3 i hi with e | e
    · exact k3 i e
    · exact ⟨fun hg => by have := k2.lt i hg; omega, Nat.le_trans k5.size e⟩
  · rcases j3 _ hi with e | e
    · exact (k6 x hx).2.1 e
    · have := heap_lt (k6 x hx).1; omega
theorem Wk.toB {rv : Value} {hen : Nat} {F G : List Nat} (k1 : JV w jb vb tb S br rv hen st F) (k3 : ∀ i, i ∈ jvfoot jb tb rv F → i ∉ G ∧ w0.heap.size ≤ i) (k4 : ∀ i, i ∈ G → w0.heap.size ≤ i) (k5 : Below w0.heap.size w0 w)
    (k6 : ∀ x, x ∈ X → w.heap[x.1]? = some x.2 ∧ x.1 ∉ jvfoot jb tb rv F ∧ x.1 ∉ G) (hs : BStep G w w' bb B') : Wk w0 w' vb jb bb tb S br st B' X := by
  obtain ⟨G', j1, j2, j3⟩ := hs
  refine ⟨rv, hen, F, G', k1.turn j2 (fun i hi => (k3 i hi).1), j1, fun i hi => ⟨fun hg => ?_, (k3 i hi).2⟩, fun i hi => ?_, k5.trans (j2.toBelow k4 k5.size), fun x hx => ⟨(j2.block x.1 (heap_lt (k6 x hx).1) (k6 x hx).2.2).trans (k6 x hx).1, (k6 x hx).2.1, fun hi => ?_⟩⟩
  · rcases j3 i hg with e | e
    · exact (k3 i hi).1 e
    · have := k1.lt i hi; omega
  · rcases j3 i hi with e | e
    · exact k4 i e
    · exact Nat.le_trans k5.size e
  · rcases j3 _ hi with e | e
    · exact (k6 x hx).2.2 e
    · have := heap_lt (k6 x hx).1; omega
theorem Wk.callV {f : FuncId} {a : Array Value} (P : Ending → JS → Bool → VS → Prop) (h : Wk w0 w vb jb bb tb S br st B X)
    (hc : ∀ rv hen F, JV w jb vb tb S br rv hen st F → Calls Try.prog f a w fun e w' => ∃ S' br' st', P e S' br' st' ∧ StepV w w' jb vb tb rv F S' br' st') :
    Calls Try.prog f a w fun e w' => ∃ S' br' st', P e S' br' st' ∧ Wk w0 w' vb jb bb tb S' br' st' B X := by
  obtain ⟨rv, hen, F, G, k1, k2, k3, k4, k5, k6⟩ := h
  refine (hc rv hen F k1).mono ?_
  rintro e w' ⟨S', br', st', hp, hs⟩
  exact ⟨S', br', st', hp, Wk.toV k1 k2 k3 k4 k5 k6 hs⟩
theorem Wk.callB {f : FuncId} {a : Array Value} (P : Ending → Prop) (h : Wk w0 w vb jb bb tb S br st B X)
    (hc : ∀ G, BkF w bb B G → Calls Try.prog f a w fun e w' => P e ∧ BStep G w w' bb B') :
    Calls Try.prog f a w fun e w' => P e ∧ Wk w0 w' vb jb bb tb S br st B' X := by
  obtain ⟨rv, hen, F, G, k1, k2, k3, k4, k5, k6⟩ := h
  refine (hc G k2).mono ?_
  rintro e w' ⟨hp, hs⟩
  exact ⟨hp, Wk.toB k1 k3 k4 k5 k6 hs⟩
theorem Wk.callL {f : FuncId} {a : Array Value} (P : Ending → Prop) (h : Wk w0 w vb jb bb tb S br st B X)
    (hc : ∀ rv hen F G, JV w jb vb tb S br rv hen st F → BkF w bb B G → Calls Try.prog f a w fun e w' => P e ∧ Below w.heap.size w w') :
    Calls Try.prog f a w fun e w' => P e ∧ Wk w0 w' vb jb bb tb S br st B X := by
  have h' := h
  obtain ⟨rv, hen, F, G, k1, k2, k3, k4, k5, k6⟩ := h'
  refine (hc rv hen F G k1 k2).mono ?_
  rintro e w' ⟨hp, hb⟩
  exact ⟨hp, h.below hb⟩
/-! ### the journal -/
theorem kappend (d : ByteArray) (h : Wk w0 w vb jb bb tb S false st B X) (hm : st.dur.length = m + 2) (hS : S.wf (256 * m) c) (hc : c ≤ 1048576) :
    Calls Try.prog 7 #[.pointer (some ⟨jb, 0, none⟩), .string d] w fun e w' => e = .returned (.tuple #[.int .i64 (S.append (256 * m) d).1, .int .i64 ((S.append (256 * m) d).2.1 : Int)]) ∧ Wk w0 w' vb jb bb tb (S.append (256 * m) d).2.2 false st B X := by
  refine (h.callV (fun e S' br' st' => e = .returned (.tuple #[.int .i64 (S.append (256 * m) d).1, .int .i64 ((S.append (256 * m) d).2.1 : Int)]) ∧ S' = (S.append (256 * m) d).2.2 ∧ br' = false ∧ st' = st) (fun _ _ _ k => ?_)).mono ?_
  · refine (jappend_any d k.j k.v hm hS hc).mono ?_
    rintro e w' ⟨rfl, hs⟩
    exact ⟨_, _, _, ⟨rfl, rfl, rfl, rfl⟩, k.stepJ hs⟩
  · rintro e w' ⟨_, _, _, ⟨rfl, rfl, rfl, rfl⟩, h2⟩
    exact ⟨rfl, h2⟩
theorem kcommit_none (h : Wk w0 w vb jb bb tb S false st B X) (hc : S.comm = S.recs.length) :
    Calls Try.prog 10 #[.pointer (some ⟨jb, 0, none⟩)] w fun e w' => e = .returned (.int .i64 0) ∧ Wk w0 w' vb jb bb tb S false st B X :=
  h.callL _ (fun _ _ _ _ k _ => (commit_none k.j hc).mono (by rintro e w' ⟨rfl, n, rfl⟩; exact ⟨rfl, below_drewN (Below.refl _ _)⟩))
theorem kcommit (h : Wk w0 w vb jb bb tb S false st B X) (hd : st.down = false) (hl : st.dur.length = m + 2) (hm : 1 ≤ m) (hm2 : m ≤ 64) (hS : S.wf (256 * m) c) (hc : c + 1 ≤ 1048576) (hlt : S.comm < S.recs.length) :
    Calls Try.prog 10 #[.pointer (some ⟨jb, 0, none⟩)] w fun e w' => ∃ L, RingOK st.area (puts st.area (S.first + S.comm) (S.recs.drop S.comm)) m L ∧ e = .returned (.int .i64 ((st.commitV L S.commit.hd).1 : Int)) ∧
      Wk w0 w' vb jb bb tb (if (st.commitV L S.commit.hd).1 = 0 then S.commit else S) ((st.commitV L S.commit.hd).1 == 36) (st.commitV L S.commit.hd).2 B X := by
  obtain ⟨rv, hen, F, G, k1, k2, k3, k4, k5, k6⟩ := h
  refine (commit_go k1 hd hl hm hm2 hS hc hlt).mono ?_
  rintro e w' ⟨L, hL, rfl, hs⟩
  exact ⟨L, hL, rfl, Wk.toV k1 k2 k3 k4 k5 k6 hs⟩
theorem kbroken (h : Wk w0 w vb jb bb tb S true st B X) :
    Calls Try.prog 10 #[.pointer (some ⟨jb, 0, none⟩)] w fun e w' => e = .returned (.int .i64 38) ∧ Wk w0 w' vb jb bb tb S true st B X :=
  h.callL _ (fun _ _ _ _ k _ => (commit_broken k.j).mono (by rintro e w' ⟨rfl, rfl⟩; exact ⟨rfl, Below.refl _ _⟩))
theorem kopen (h : Wk w0 w vb jb bb tb S br st B X) (hd : st.down = false) (hl : st.dur.length = m + 2) (hm : 1 ≤ m) (hm2 : m ≤ 64) {S' : JS} (hf : st.found = some S') :
    Calls Try.prog 14 #[.pointer (some ⟨vb, 0, none⟩)] w fun e w' => ∃ jb' tb', e = .returned (.tuple #[.pointer (some ⟨jb', 0, none⟩), .int .i64 0]) ∧ Wk w0 w' vb jb' bb tb' S' false st B X := by
  obtain ⟨rv, hen, F, G, k1, k2, k3, k4, k5, k6⟩ := h
  refine (open_yes k1.v hd hl hm hm2 hf).mono ?_
  rintro e w' ⟨jb', tb', rv', hen', rfl, hj, ht, hb, htb, hjf⟩
  have hs := hb.size
  refine ⟨jb', tb', rfl, rv', hen', F, G, ⟨hj, k1.v.below hb, ht, fun i hi hi2 => ?_, fun hi => (hjf tb' hi).2 rfl, fun hi => ?_⟩, k2.below hb, fun i hi => ?_, k4, k5.trans (hb.mono k5.size), fun x hx => ⟨(hb.block x.1 (heap_lt (k6 x hx).1)).trans (k6 x hx).1, fun hi => ?_, (k6 x hx).2.2⟩⟩
  · have h3 := (hjf i hi).1
    have h4 := k1.v.lt i hi2
    omega
  · have h4 := k1.v.lt tb' hi
    omega
  · unfold jvfoot at hi
    rcases List.mem_cons.1 hi with rfl | hi
    · exact ⟨fun hg => by have := k2.lt _ hg; omega, Nat.le_trans k5.size htb⟩
    rcases List.mem_append.1 hi with hi | hi
    · have := (hjf i hi).1
      exact ⟨fun hg => by have := k2.lt _ hg; omega, Nat.le_trans k5.size this⟩
    · exact k3 i (by simp [jvfoot, hi])
  · have hx1 := heap_lt (k6 x hx).1
    unfold jvfoot at hi
    rcases List.mem_cons.1 hi with e | hi
    · omega
    rcases List.mem_append.1 hi with hi | hi
    · have := (hjf _ hi).1; omega
    · exact (k6 x hx).2.1 (by simp [jvfoot, hi])
/-! ### the book -/
theorem kbappend (d : ByteArray) (h : Wk w0 w vb jb bb tb S br st B X) (hA : B.area.length = 256 * m) (hm2 : m ≤ 64) (hS : B.s.wf (256 * m) c) (hc : c ≤ 1048575) :
    Calls Try.prog 9 #[.pointer (some ⟨bb, 0, none⟩), .string d] w fun e w' => e = .returned (.tuple #[.int .i64 (B.append d).1, .int .i64 ((B.append d).2.1 : Int)]) ∧ Wk w0 w' vb jb bb tb S br st (B.append d).2.2 X := by
  have hn := hS.nums
  have hp := hS.pos
  have h1 := hS.en_le
  have h2 := hS.beg_le
  have hb := hS.recs_bound (by omega)
  have hco := hS.comm
  exact h.callB _ (fun G k => bappend_any d k hco (by omega) (fun r hr => (hb r hr).1) (by omega) (by omega) (by omega) (by omega))
theorem kbcommit_none (h : Wk w0 w vb jb bb tb S br st B X) (hS : B.s.wf (256 * m) c) (hc : c ≤ 1048576) (he : B.s.comm = B.s.recs.length) :
    Calls Try.prog 11 #[.pointer (some ⟨bb, 0, none⟩)] w fun e w' => e = .returned (.tuple #[]) ∧ Wk w0 w' vb jb bb tb S br st B X := by
  have hn := hS.nums
  refine h.callL _ (fun _ _ _ _ _ k => ?_)
  obtain ⟨_, _, _, _, _, _, _, k, _⟩ := k
  exact (bcommit_none k he (by omega) (by omega)).mono (by rintro e w' ⟨rfl, n, rfl⟩; exact ⟨rfl, below_drewN (Below.refl _ _)⟩)
theorem kbcommit (h : Wk w0 w vb jb bb tb S br st B X) (hA : B.area.length = 256 * m) (hm : 1 ≤ m) (hm2 : m ≤ 64) (hS : B.s.wf (256 * m) c) (hc : c ≤ 1048576) (hlt : B.s.comm < B.s.recs.length) :
    Calls Try.prog 11 #[.pointer (some ⟨bb, 0, none⟩)] w fun e w' => e = .returned (.tuple #[]) ∧ Wk w0 w' vb jb bb tb S br st B.commit X := by
  have hn := hS.nums
  have hp := hS.pos
  have h1 := hS.en_le
  have h2 := hS.beg_le
  have hhb := hS.h
  have hb := hS.recs_bound hc
  exact h.callB _ (fun G k => bcommit_go k hlt (by omega) (by omega) (by omega) (by omega) (by omega) hb (by omega) (by omega))
theorem kbdurable (h : Wk w0 w vb jb bb tb S br st B X) (hS : B.s.wf (256 * m) c) (hc : c ≤ 1048576) :
    Calls Try.prog 33 #[.pointer (some ⟨bb, 0, none⟩)] w fun e w' => e = .returned (.int .i64 B.s.durable) ∧ ∃ n, w' = w.drewN n := by
  obtain ⟨rv, hen, F, G, k1, k2, k3, k4, k5, k6⟩ := h
  obtain ⟨_, _, _, _, _, _, _, k, _⟩ := k2
  exact bdurable_any k hS.comm (by have := hS.nums; omega) (by have := hS.nums; omega)
theorem kimage (h : Wk w0 w vb jb bb tb S br st B X) (hI : Inv st B m c) :
    Calls Try.prog 22 #[.pointer (some ⟨bb, 0, none⟩), .pointer (some ⟨vb, 0, none⟩)] w fun e w' => e = .returned (.bool true) ∧ Wk w0 w' vb jb bb tb S br st B X :=
  h.callL _ (fun _ _ _ _ k j => bimage_any j k.v hI.up hI.len hI.m2 hI.h0 hI.h1 hI.area)
/-- cells of the book -/
theorem Wk.book (h : Wk w0 w vb jb bb tb S br st B X) : ∃ ao cap, w.cell? ⟨bb, 4, none⟩ = some (.int .i64 (B.s.first : Int)) ∧ w.cell? ⟨bb, 6, none⟩ = some (.slice ao B.s.recs.length cap) ∧
    w.ownsRow 0 43 3 (.slice ao B.s.recs.length cap) B.s.recs.length (bcells B.s.comm B.s.recs) ∧ bb < w.heap.size := by
  obtain ⟨rv, hen, F, G, k1, k2, k3, k4, k5, k6⟩ := h
  obtain ⟨_, _, _, _, _, _, vr, k, _⟩ := k2
  obtain ⟨ao, cap, hv⟩ := brow_shape k.rs
  have hr := k.rs
  have h6 := k.blk.cell 6
  simp at h6
  rw [hv] at hr h6
  exact ⟨ao, cap, k.blk.cell 4, h6, hr, k.blk.lt⟩
theorem Wk.vol (h : Wk w0 w vb jb bb tb S br st B X) : ∃ F, VolF w vb st F := by
  obtain ⟨rv, hen, F, G, k1, _⟩ := h
  exact ⟨F, k1.v⟩
end
end Go.Proofs.Ytfdnpchbbngpjaa
namespace Go.Proofs.Ytfdnpchbbngpjaa
attribute [local go_sem ↓] Go.wp_at_zero Go.wp_at_succ
open Go.RowKit Go.Maps

/-- an operation as data -/
structure JO where
  kind : Nat
  num : Int
  data : Nat
structure JO.ok (o : JO) : Prop where
  kind : o.kind < 256
  num : -32768 ≤ o.num ∧ o.num ≤ 32767
  data : o.data < 65536
def JO.val (o : JO) : Value := .agg #[.int .u8 (o.kind : Int), .int .i16 o.num, .int .u16 (o.data : Int)]
/-- the device failed during an operation -/
structure Fell (st st' : VS) (B B' : BS) (m c : Nat) : Prop where
  calm : ¬ Calm st
  down : st'.down = true
  wf : st'.wf
  s : B'.s.wf (256 * m) c
  area : B'.area.length = 256 * m
  again : ∀ cs, ∃ S, (S = B.s.reopen ∨ S = B'.s.reopen) ∧ Inv (st'.start cs) ⟨(st'.start cs).sct 0, (st'.start cs).sct 1, (st'.start cs).area, S⟩ m c
def PfPost (w0 : World) (vb bb : Nat) (st : VS) (B : BS) (m c : Nat) (X : List (Nat × Obj)) (e : Ending) (w' : World) : Prop :=
  ∃ jb tb S br st' B', e = .returned (.tuple #[.pointer (some ⟨jb, 0, none⟩), .bool (!br)]) ∧ Wk w0 w' vb jb bb tb S br st' B' X ∧
    ((br = false ∧ Inv st' B' m (c + 1) ∧ B'.s = S ∧ (Calm st → Calm st')) ∨ (br = true ∧ Fell st st' B B' m (c + 1)))
theorem Inv.mono {st : VS} {B : BS} {m c d : Nat} (h : Inv st B m c) (hcd : c ≤ d) (hd : d ≤ 1048576) : Inv st B m d :=
  ⟨h.wf, h.up, h.pend, h.len, h.m1, h.m2, h.h0, h.h1, h.area, h.s.mono hcd, h.lies, h.cur, h.find, hd⟩
theorem reopen_full {S : JS} (h : S.comm = S.recs.length) : S.reopen = S := by
  unfold JS.reopen
  rw [h, List.take_length]
  cases S
  simp_all
theorem Wk.box {w0 w : World} {vb jb bb tb : Nat} {S : JS} {br : Bool} {st : VS} {B : BS} {X : List (Nat × Obj)} {g : Nat} {t : TypeId} {cs : Array Value} (h : Wk w0 w vb jb bb tb S br st B ((g, Obj.cells cs t (0, 0)) :: X)) : Blk w g t cs := h.blk (List.mem_cons_self ..)
section
variable {w0 w : World} {vb jb bb tb : Nat} {S : JS} {st : VS} {B : BS} {X : List (Nat × Obj)} {m c : Nat}
theorem header_s (B : BS) (s : JS) : (BS.header B s).s = s := by
  unfold BS.header BS.setHead
  split <;> rfl
theorem header_area (B : BS) (s : JS) : (BS.header B s).area = B.area := by
  unfold BS.header BS.setHead
  split <;> rfl
end
end Go.Proofs.Ytfdnpchbbngpjaa
namespace Go.Proofs.Ytfdnpchbbngpjaa
open Go.ChangeShapes Go.WideShapes Go.ChangeAt Go.RowKit Go.Deep

/-- the operation o lies at the place -/
def JOpAt (w : World) (b off : Nat) (o : JO) : Prop := o.ok ∧ w.cell? ⟨b, off, none⟩ = some (.int .u8 (o.kind : Int)) ∧ w.cell? ⟨b, off + 1, none⟩ = some (.int .i16 o.num) ∧ w.cell? ⟨b, off + 2, none⟩ = some (.int .u16 (o.data : Int))
/-- v is the slice of the operations l -/
def JOps (w : World) (v : Value) (l : List JO) : Prop :=
  ∃ (ao : Option Addr) (cap : Nat), v = .slice ao l.length cap ∧ l.length ≤ maxLen ∧ (0 < l.length → ∃ b off, ao = some ⟨b, off, none⟩ ∧ b < w.heap.size ∧ ∀ i (h : i < l.length), JOpAt w b (off + i * 3) l[i])
theorem JOps.below {w w' : World} {v : Value} {l : List JO} (h : JOps w v l) (hb : Below w.heap.size w w') : JOps w' v l := by
  obtain ⟨ao, cap, h1, h2, h3⟩ := h
  refine ⟨ao, cap, h1, h2, fun hp => ?_⟩
  obtain ⟨b, off, e, hlt, hc⟩ := h3 hp
  refine ⟨b, off, e, Nat.lt_of_lt_of_le hlt hb.size, fun i hi => ?_⟩
  obtain ⟨k1, k2, k3, k4⟩ := hc i hi
  exact ⟨k1, (hb.cell (p := ⟨b, _, none⟩) hlt).trans k2, (hb.cell (p := ⟨b, _, none⟩) hlt).trans k3, (hb.cell (p := ⟨b, _, none⟩) hlt).trans k4⟩
theorem vcell_lt {w : World} {b o : Nat} {v : Value} (h : w.cell? ⟨b, o, none⟩ = some v) : b < w.heap.size := by
  rcases Nat.lt_or_ge b w.heap.size with h' | h'
  · exact h'
  · simp [World.cell?, Array.getElem?_eq_none h'] at h
theorem u8of {n : Int} (h : (Lit.int .u8 n).wf = true) : ∃ m : Nat, n = (m : Int) ∧ m < 256 := by
  simp [Lit.wf, IntKind.min, IntKind.max, IntKind.signed, IntKind.bits] at h
  exact ⟨n.toNat, by omega, by omega⟩
theorem u16of {n : Int} (h : (Lit.int .u16 n).wf = true) : ∃ m : Nat, n = (m : Int) ∧ m < 65536 := by
  simp [Lit.wf, IntKind.min, IntKind.max, IntKind.signed, IntKind.bits] at h
  exact ⟨n.toNat, by omega, by omega⟩
theorem i16bd {n : Int} (h : (Lit.int .i16 n).wf = true) : -32768 ≤ n ∧ n ≤ 32767 := by
  simp [Lit.wf, IntKind.min, IntKind.max, IntKind.signed, IntKind.bits] at h
  omega
set_option maxRecDepth 100000 in
theorem open_byts {H : Type} {enc : TypeId × Value → H} {W : World} {base b0 : Nat} {sp : Nat → Bool} {held : Bool} {r : Reach} {v : Value} {d : DataW H} {ps : List MemPlace}
    (hv : Value.okWide Try.prog W r b0 37 v) (hd : DataW.Trod enc Try.prog W base sp held 37 v d ps) : ∃ l, Byts W v l := by
  obtain ⟨a, len, cap, rfl⟩ := okWide_slice Try.underlying37 hv
  obtain ⟨fuel, hf⟩ := hd
  rcases open_ints Try.underlying37 Try.underlying5 (by kernel_rfl) hf with ⟨hcs, _⟩ | ⟨x, l, c, zs, hcs, _, hl, hm, hz, _, hcell, hwz⟩
  · simp [Value.cells] at hcs
    obtain ⟨rfl, rfl, rfl⟩ := hcs
    exact ⟨[], none, 0, rfl, Nat.zero_le _, fun h => absurd h (by simp)⟩
  · simp [Value.cells] at hcs
    obtain ⟨rfl, rfl, rfl⟩ := hcs
    have hlz : len ≤ zs.length := by rw [hz]; split <;> omega
    unfold maxLen at hm
    refine ⟨(List.range len).map fun i => UInt8.ofNat (zs.getD i 0).toNat, some x, cap, by simp, by simp; omega, fun hp => ?_⟩
    simp at hp
    obtain ⟨b, off, rfl, hc⟩ := ints_at hcell (by omega)
    refine ⟨b, off, rfl, vcell_lt (hc 0 (by omega)), fun j hj => ?_⟩
    simp at hj
    rw [hc j (by omega)]
    have hb := hwz (zs.getD j 0) (by simp [List.getD, List.getElem?_eq_getElem (show j < zs.length by omega)])
    obtain ⟨m, e, hm2⟩ := u8of hb
    simp only [List.getD_eq_getElem?_getD] at e
    simp [List.getD, List.getElem?_map, List.getElem?_range hj, e]
    omega
/-- v is the slice of the numbers l -/
def U16s (w : World) (v : Value) (l : List Nat) : Prop :=
  (∀ n, n ∈ l → n < 65536) ∧ ∃ (ao : Option Addr) (cap : Nat), v = .slice ao l.length cap ∧ l.length ≤ maxLen ∧ (0 < l.length → ∃ b off, ao = some ⟨b, off, none⟩ ∧ b < w.heap.size ∧ ∀ i, i < l.length → w.cell? ⟨b, off + i, none⟩ = some (.int .u16 (l.getD i 0 : Int)))
theorem U16s.below {w w' : World} {v : Value} {l : List Nat} (h : U16s w v l) (hb : Below w.heap.size w w') : U16s w' v l := by
  obtain ⟨h0, ao, cap, h1, h2, h3⟩ := h
  refine ⟨h0, ao, cap, h1, h2, fun hp => ?_⟩
  obtain ⟨b, off, e, hlt, hc⟩ := h3 hp
  exact ⟨b, off, e, Nat.lt_of_lt_of_le hlt hb.size, fun i hi => (hb.cell (p := ⟨b, _, none⟩) hlt).trans (hc i hi)⟩
set_option maxRecDepth 100000 in
theorem open_u16s {H : Type} {enc : TypeId × Value → H} {W : World} {base b0 : Nat} {sp : Nat → Bool} {held : Bool} {r : Reach} {v : Value} {d : DataW H} {ps : List MemPlace}
    (hv : Value.okWide Try.prog W r b0 22 v) (hd : DataW.Trod enc Try.prog W base sp held 22 v d ps) : ∃ l, U16s W v l := by
  obtain ⟨a, len, cap, rfl⟩ := okWide_slice Try.underlying22 hv
  obtain ⟨fuel, hf⟩ := hd
  rcases open_ints Try.underlying22 Try.underlying23 (by kernel_rfl) hf with ⟨hcs, _⟩ | ⟨x, l, c, zs, hcs, _, hl, hm, hz, _, hcell, hwz⟩
  · simp [Value.cells] at hcs
    obtain ⟨rfl, rfl, rfl⟩ := hcs
    exact ⟨[], fun _ h => (by cases h), none, 0, rfl, Nat.zero_le _, fun h => absurd h (by simp)⟩
  · simp [Value.cells] at hcs
    obtain ⟨rfl, rfl, rfl⟩ := hcs
    have hlz : len ≤ zs.length := by rw [hz]; split <;> omega
    have hb : ∀ j, j < len → ∃ m : Nat, zs.getD j 0 = (m : Int) ∧ m < 65536 := fun j hj => u16of (hwz (zs.getD j 0) (by simp [List.getD, List.getElem?_eq_getElem (show j < zs.length by omega)]))
    refine ⟨(List.range len).map fun i => (zs.getD i 0).toNat, fun n hn => ?_, some x, cap, by simp, by simp; omega, fun hp => ?_⟩
    · obtain ⟨j, hj, rfl⟩ := List.mem_map.1 hn
      obtain ⟨m, e, hm2⟩ := hb j (by simpa using hj)
      rw [e]; omega
    · simp at hp
      obtain ⟨b, off, rfl, hc⟩ := ints_at hcell (by omega)
      refine ⟨b, off, rfl, vcell_lt (hc 0 (by omega)), fun j hj => ?_⟩
      simp at hj
      rw [hc j (by omega)]
      obtain ⟨m, e, hm2⟩ := hb j hj
      simp only [List.getD_eq_getElem?_getD] at e
      simp [List.getD, List.getElem?_map, List.getElem?_range hj, e]
end Go.Proofs.Ytfdnpchbbngpjaa
namespace Go.Proofs.Ytfdnpchbbngpjaa
open Go.RowKit Go.Maps
theorem sectors_any (n : Nat) (hn : n < 256) (w : World) : Calls Try.prog 5 #[.int .u8 (n : Int)] w fun e w' => e = .returned (.int .i64 (((1 + n % 10 : Nat) : Int) + 2)) ∧ w = w' := by
  go_enter Try.func5, Try.ntmps5
  go_wp2
  go_ret
  exact ⟨by go_num, rfl⟩
section
variable {w0 w : World} {vb jb bb tb : Nat} {S : JS} {st : VS} {B : BS} {X : List (Nat × Obj)} {m c : Nat}
/-- the cells of an operation of a slice from before -/
theorem op_cells {w0 w' : World} {v : Value} {l : List JO} (h : JOps w0 v l) (hb : Below w0.heap.size w0 w') {k : Nat} (hk : k < l.length) :
    ∃ b off cap, v = .slice (some ⟨b, off, none⟩) l.length cap ∧ l[k].ok ∧ w'.cell? ⟨b, off + k * 3, none⟩ = some (.int .u8 (l[k].kind : Int)) ∧ w'.cell? ⟨b, off + k * 3 + 1, none⟩ = some (.int .i16 l[k].num) ∧ w'.cell? ⟨b, off + k * 3 + 2, none⟩ = some (.int .u16 (l[k].data : Int)) := by
  obtain ⟨ao, cap, h1, h2, h3⟩ := h.below hb
  obtain ⟨b, off, e, hlt, hc⟩ := h3 (by omega)
  subst e
  obtain ⟨k1, k2, k3, k4⟩ := hc k hk
  exact ⟨b, off, cap, h1, k1, k2, k3, k4⟩
end
end Go.Proofs.Ytfdnpchbbngpjaa
