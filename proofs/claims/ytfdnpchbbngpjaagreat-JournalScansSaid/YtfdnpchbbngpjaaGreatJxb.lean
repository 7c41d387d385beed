/- Device, journal and book in one world, with other blocks kept beside them; perform; rows' arguments opened. -/
import Derived.Test.YtfdnpchbbngpjaaGreatJxa
import Derived.Test.YtfdnpchbbngpjaaGreatJni
import Derived.IntWalk
import Derived.Deep.Slices
import Derived.ChangeSame
import Derived.ProofKit
import Derived.OpenShut
namespace Go.Proofs.YtfdnpchbbngpjaaGreat
open Go.RowKit Go.Maps

/-- as Wd, and the blocks X lie beside -/
def Wk (w0 w : World) (vb jb bb tb : Nat) (S : JS) (br : Bool) (st : VS) (B : BS) (X : List (Nat × Obj)) : Prop :=
  ∃ rv hen F G, JV w jb vb tb S br rv hen st F ∧ BkF w bb B G ∧ (∀ i, i ∈ jvfoot jb tb rv F → i ∉ G ∧ w0.heap.size ≤ i) ∧ (∀ i, i ∈ G → w0.heap.size ≤ i) ∧ Below w0.heap.size w0 w ∧
    ∀ x, x ∈ X → w.heap[x.1]? = some x.2 ∧ x.1 ∉ jvfoot jb tb rv F ∧ x.1 ∉ G
section
variable {w0 w w' : World} {vb jb bb tb : Nat} {S S' : JS} {br br' : Bool} {st st' : VS} {B B' : BS} {X Y : List (Nat × Obj)} {m c : Nat}
theorem Wk.of (h : Wd w0 w vb jb bb tb S br st B) : Wk w0 w vb jb bb tb S br st B [] := by
  obtain ⟨rv, hen, F, G, h1, h2, h3, h4, h5⟩ := h
  exact ⟨rv, hen, F, G, h1, h2, h3, h4, h5, fun x hx => by cases hx⟩
theorem Wk.size (h : Wk w0 w vb jb bb tb S br st B X) : Below w0.heap.size w0 w := by
  obtain ⟨_, _, _, _, _, _, _, _, h5, _⟩ := h
  exact h5
theorem Wk.sub (h : Wk w0 w vb jb bb tb S br st B X) (hs : ∀ x, x ∈ Y → x ∈ X) : Wk w0 w vb jb bb tb S br st B Y := by
  obtain ⟨rv, hen, F, G, h1, h2, h3, h4, h5, h6⟩ := h
  exact ⟨rv, hen, F, G, h1, h2, h3, h4, h5, fun x hx => h6 x (hs x hx)⟩
theorem heap_lt {w : World} {g : Nat} {o : Obj} (h : w.heap[g]? = some o) : g < w.heap.size := (Array.getElem?_eq_some_iff.1 h).1
theorem Wk.below (h : Wk w0 w vb jb bb tb S br st B X) (hb : Below w.heap.size w w') : Wk w0 w' vb jb bb tb S br st B X := by
  obtain ⟨rv, hen, F, G, h1, h2, h3, h4, h5, h6⟩ := h
  exact ⟨rv, hen, F, G, h1.below hb, h2.below hb, h3, h4, h5.trans (hb.mono h5.size), fun x hx => ⟨(hb.block x.1 (heap_lt (h6 x hx).1)).trans (h6 x hx).1, (h6 x hx).2⟩⟩
/-- a block that was just laid is kept from now on -/
theorem Wk.alloc (h : Wk w0 w vb jb bb tb S br st B X) (o : Obj) : Wk w0 (w.alloc o) vb jb bb tb S br st B ((w.heap.size, o) :: X) := by
  have hb : Below w.heap.size w (w.alloc o) := (Below.refl _ w).alloc (Nat.le_refl _) _
  obtain ⟨rv, hen, F, G, h1, h2, h3, h4, h5, h6⟩ := h.below hb
  obtain ⟨rv, hen, F, G, k1, k2, k3, k4, k5, k6⟩ := h
  refine ⟨rv, hen, F, G, k1.below hb, k2.below hb, k3, k4, k5.trans (hb.mono k5.size), fun x hx => ?_⟩
  rcases List.mem_cons.1 hx with rfl | hx
  · exact ⟨heap_alloc_new w o, fun hi => Nat.lt_irrefl _ (k1.lt _ hi), fun hi => Nat.lt_irrefl _ (k2.lt _ hi)⟩
  · exact ⟨(hb.block x.1 (heap_lt (k6 x hx).1)).trans (k6 x hx).1, (k6 x hx).2⟩
/-- a block from before is kept -/
theorem Wk.old (h : Wk w0 w vb jb bb tb S br st B X) {g : Nat} {o : Obj} (hg : w0.heap[g]? = some o) : Wk w0 w vb jb bb tb S br st B ((g, o) :: X) := by
  obtain ⟨rv, hen, F, G, k1, k2, k3, k4, k5, k6⟩ := h
  refine ⟨rv, hen, F, G, k1, k2, k3, k4, k5, fun x hx => ?_⟩
  rcases List.mem_cons.1 hx with rfl | hx
  · have hl := heap_lt hg
    exact ⟨(k5.block g hl).trans hg, fun hi => by have := (k3 _ hi).2; omega, fun hi => by have := k4 _ hi; omega⟩
  · exact k6 x hx
theorem Wk.blk {g : Nat} {t : TypeId} {cs : Array Value} (h : Wk w0 w vb jb bb tb S br st B X) (hx : (g, Obj.cells cs t (0, 0)) ∈ X) : Blk w g t cs := by
  obtain ⟨_, _, _, _, _, _, _, _, _, k6⟩ := h
  exact (k6 _ hx).1
theorem Wk.toV {rv : Value} {hen : Nat} {F G : List Nat} (_k1 : JV w jb vb tb S br rv hen st F) (k2 : BkF w bb B G) (k3 : ∀ i, i ∈ jvfoot jb tb rv F → i ∉ G ∧ w0.heap.size ≤ i) (k4 : ∀ i, i ∈ G → w0.heap.size ≤ i) (k5 : Below w0.heap.size w0 w)
    (k6 : ∀ x, x ∈ X → w.heap[x.1]? = some x.2 ∧ x.1 ∉ jvfoot jb tb rv F ∧ x.1 ∉ G) (hs : StepV w w' jb vb tb rv F S' br' st') : Wk w0 w' vb jb bb tb S' br' st' B X := by
  obtain ⟨rv', hen', F', j1, j2, j3⟩ := hs
  refine ⟨rv', hen', F', G, j1, k2.turn j2 (fun i hi hi2 => (k3 i hi2).1 hi), fun i hi => ?_, k4, k5.trans (j2.toBelow (fun i hi => (k3 i hi).2) k5.size), fun x hx => ⟨(j2.block x.1 (heap_lt (k6 x hx).1) (k6 x hx).2.1).trans (k6 x hx).1, fun hi => ?_, (k6 x hx).2.2⟩⟩
  · rcases j3 i hi with e | e
    · exact k3 i e
    · exact ⟨fun hg => by have := k2.lt i hg; omega, Nat.le_trans k5.size e⟩
  · rcases j3 _ hi with e | e
    · exact (k6 x hx).2.1 e
    · have := heap_lt (k6 x hx).1; omega
theorem Wk.toB {rv : Value} {hen : Nat} {F G : List Nat} (k1 : JV w jb vb tb S br rv hen st F) (k3 : ∀ i, i ∈ jvfoot jb tb rv F → i ∉ G ∧ w0.heap.size ≤ i) (k4 : ∀ i, i ∈ G → w0.heap.size ≤ i) (k5 : Below w0.heap.size w0 w)
    (k6 : ∀ x, x ∈ X → w.heap[x.1]? = some x.2 ∧ x.1 ∉ jvfoot jb tb rv F ∧ x.1 ∉ G) (hs : BStep G w w' bb B') : Wk w0 w' vb jb bb tb S br st B' X := by
  obtain ⟨G', j1, j2, j3⟩ := hs
  refine ⟨rv, hen, F, G', k1.turn j2 (fun i hi => (k3 i hi).1), j1, fun i hi => ⟨fun hg => ?_, (k3 i hi).2⟩, fun i hi => ?_, k5.trans (j2.toBelow k4 k5.size), fun x hx => ⟨(j2.block x.1 (heap_lt (k6 x hx).1) (k6 x hx).2.2).trans (k6 x hx).1, (k6 x hx).2.1, fun hi => ?_⟩⟩
  · rcases j3 i hg with e | e
    · exact (k3 i hi).1 e
    · have := k1.lt i hi; omega
  · rcases j3 i hi with e | e
    · exact k4 i e
    · exact Nat.le_trans k5.size e
  · rcases j3 _ hi with e | e
    · exact (k6 x hx).2.2 e
    · have := heap_lt (k6 x hx).1; omega
theorem Wk.callV {f : FuncId} {a : Array Value} (P : Ending → JS → Bool → VS → Prop) (h : Wk w0 w vb jb bb tb S br st B X)
    (hc : ∀ rv hen F, JV w jb vb tb S br rv hen st F → Calls Tryz.prog f a w fun e w' => ∃ S' br' st', P e S' br' st' ∧ StepV w w' jb vb tb rv F S' br' st') :
    Calls Tryz.prog f a w fun e w' => ∃ S' br' st', P e S' br' st' ∧ Wk w0 w' vb jb bb tb S' br' st' B X := by
  obtain ⟨rv, hen, F, G, k1, k2, k3, k4, k5, k6⟩ := h
  refine (hc rv hen F k1).mono ?_
  rintro e w' ⟨S', br', st', hp, hs⟩
  exact ⟨S', br', st', hp, Wk.toV k1 k2 k3 k4 k5 k6 hs⟩
theorem Wk.callB {f : FuncId} {a : Array Value} (P : Ending → Prop) (h : Wk w0 w vb jb bb tb S br st B X)
    (hc : ∀ G, BkF w bb B G → Calls Tryz.prog f a w fun e w' => P e ∧ BStep G w w' bb B') :
    Calls Tryz.prog f a w fun e w' => P e ∧ Wk w0 w' vb jb bb tb S br st B' X := by
  obtain ⟨rv, hen, F, G, k1, k2, k3, k4, k5, k6⟩ := h
  refine (hc G k2).mono ?_
  rintro e w' ⟨hp, hs⟩
  exact ⟨hp, Wk.toB k1 k3 k4 k5 k6 hs⟩
theorem Wk.callL {f : FuncId} {a : Array Value} (P : Ending → Prop) (h : Wk w0 w vb jb bb tb S br st B X)
    (hc : ∀ rv hen F G, JV w jb vb tb S br rv hen st F → BkF w bb B G → Calls Tryz.prog f a w fun e w' => P e ∧ Below w.heap.size w w') :
    Calls Tryz.prog f a w fun e w' => P e ∧ Wk w0 w' vb jb bb tb S br st B X := by
  have h' := h
  obtain ⟨rv, hen, F, G, k1, k2, k3, k4, k5, k6⟩ := h'
  refine (hc rv hen F G k1 k2).mono ?_
  rintro e w' ⟨hp, hb⟩
  exact ⟨hp, h.below hb⟩
/-! ### the journal -/
theorem kappend (d : ByteArray) (h : Wk w0 w vb jb bb tb S false st B X) (hm : st.dur.length = m + 2) (hS : S.wf (256 * m) c) (hc : c ≤ 1048576) :
    Calls Tryz.prog 23 #[.pointer (some ⟨jb, 0, none⟩), .string d] w fun e w' => e = .returned (.tuple #[.int .i64 (S.append (256 * m) d).1, .int .i64 ((S.append (256 * m) d).2.1 : Int)]) ∧ Wk w0 w' vb jb bb tb (S.append (256 * m) d).2.2 false st B X := by
  refine (h.callV (fun e S' br' st' => e = .returned (.tuple #[.int .i64 (S.append (256 * m) d).1, .int .i64 ((S.append (256 * m) d).2.1 : Int)]) ∧ S' = (S.append (256 * m) d).2.2 ∧ br' = false ∧ st' = st) (fun _ _ _ k => ?_)).mono ?_
  · refine (jappend_any d k.j k.v hm hS hc).mono ?_
    rintro e w' ⟨rfl, hs⟩
    exact ⟨_, _, _, ⟨rfl, rfl, rfl, rfl⟩, k.stepJ hs⟩
  · rintro e w' ⟨_, _, _, ⟨rfl, rfl, rfl, rfl⟩, h2⟩
    exact ⟨rfl, h2⟩
theorem kcommit_none (h : Wk w0 w vb jb bb tb S false st B X) (hc : S.comm = S.recs.length) :
    Calls Tryz.prog 16 #[.pointer (some ⟨jb, 0, none⟩)] w fun e w' => e = .returned (.int .i64 0) ∧ Wk w0 w' vb jb bb tb S false st B X :=
  h.callL _ (fun _ _ _ _ k _ => (commit_none k.j hc).mono (by rintro e w' ⟨rfl, n, rfl⟩; exact ⟨rfl, below_drewN (Below.refl _ _)⟩))
theorem kcommit (h : Wk w0 w vb jb bb tb S false st B X) (hd : st.down = false) (hl : st.dur.length = m + 2) (hm : 1 ≤ m) (hm2 : m ≤ 64) (hS : S.wf (256 * m) c) (hc : c + 1 ≤ 1048576) (hlt : S.comm < S.recs.length) :
    Calls Tryz.prog 16 #[.pointer (some ⟨jb, 0, none⟩)] w fun e w' => ∃ L, RingOK st.area (puts st.area (S.first + S.comm) (S.recs.drop S.comm)) m L ∧ e = .returned (.int .i64 ((st.commitV L S.commit.hd).1 : Int)) ∧
      Wk w0 w' vb jb bb tb (if (st.commitV L S.commit.hd).1 = 0 then S.commit else S) ((st.commitV L S.commit.hd).1 == 36) (st.commitV L S.commit.hd).2 B X := by
  obtain ⟨rv, hen, F, G, k1, k2, k3, k4, k5, k6⟩ := h
  refine (commit_go k1 hd hl hm hm2 hS hc hlt).mono ?_
  rintro e w' ⟨L, hL, rfl, hs⟩
  exact ⟨L, hL, rfl, Wk.toV k1 k2 k3 k4 k5 k6 hs⟩
theorem kbroken (h : Wk w0 w vb jb bb tb S true st B X) :
    Calls Tryz.prog 16 #[.pointer (some ⟨jb, 0, none⟩)] w fun e w' => e = .returned (.int .i64 38) ∧ Wk w0 w' vb jb bb tb S true st B X :=
  h.callL _ (fun _ _ _ _ k _ => (commit_broken k.j).mono (by rintro e w' ⟨rfl, rfl⟩; exact ⟨rfl, Below.refl _ _⟩))
theorem kbroken_t (n : Int) (h : Wk w0 w vb jb bb tb S true st B X) :
    Calls Tryz.prog 17 #[.pointer (some ⟨jb, 0, none⟩), .int .i64 n] w fun e w' => e = .returned (.int .i64 38) ∧ Wk w0 w' vb jb bb tb S true st B X :=
  h.callL _ (fun _ _ _ _ k _ => (trunc_broken n k.j).mono (by rintro e w' ⟨rfl, rfl⟩; exact ⟨rfl, Below.refl _ _⟩))
theorem ktrunc_high (k : Int) (h : Wk w0 w vb jb bb tb S false st B X) (hS : S.wf (256 * m) c) (hc : c ≤ 1048576) (hk : S.durable < k) :
    Calls Tryz.prog 17 #[.pointer (some ⟨jb, 0, none⟩), .int .i64 k] w fun e w' => e = .returned (.int .i64 2) ∧ Wk w0 w' vb jb bb tb S false st B X :=
  h.callL _ (fun _ _ _ _ j _ => (trunc_high k j.j (by have := hS.nums; omega) (by have := hS.nums; have := hS.comm; omega) hk).mono (by rintro e w' ⟨rfl, n, rfl⟩; exact ⟨rfl, below_drewN (Below.refl _ _)⟩))
theorem ktrunc_low (k : Int) (h : Wk w0 w vb jb bb tb S false st B X) (hS : S.wf (256 * m) c) (hc : c ≤ 1048576) (hk : k ≤ S.durable) (hk2 : k < (S.first : Int)) :
    Calls Tryz.prog 17 #[.pointer (some ⟨jb, 0, none⟩), .int .i64 k] w fun e w' => e = .returned (.int .i64 0) ∧ Wk w0 w' vb jb bb tb S false st B X :=
  h.callL _ (fun _ _ _ _ j _ => (trunc_low k j.j (by have := hS.nums; omega) (by have := hS.nums; have := hS.comm; omega) hk hk2).mono (by rintro e w' ⟨rfl, n, rfl⟩; exact ⟨rfl, below_drewN (Below.refl _ _)⟩))
theorem ktrunc (h : Wk w0 w vb jb bb tb S false st B X) (hS : S.wf (256 * m) c) (hc : c + 1 ≤ 1048576) {k : Nat} (hk1 : 1 ≤ k) (hk : k ≤ S.comm) :
    Calls Tryz.prog 17 #[.pointer (some ⟨jb, 0, none⟩), .int .i64 ((S.first : Int) + k - 1)] w fun e w' => e = .returned (.int .i64 ((st.putHd (S.drop k).hd).1 : Int)) ∧
      Wk w0 w' vb jb bb tb (if (st.putHd (S.drop k).hd).1 = 0 then S.drop k else S) ((st.putHd (S.drop k).hd).1 == 36) (st.putHd (S.drop k).hd).2 B X := by
  obtain ⟨rv, hen, F, G, k1, k2, k3, k4, k5, k6⟩ := h
  refine (trunc_go k1 hS hc hk1 hk).mono ?_
  rintro e w' ⟨rfl, hs⟩
  exact ⟨rfl, Wk.toV k1 k2 k3 k4 k5 k6 hs⟩
theorem kopen (h : Wk w0 w vb jb bb tb S br st B X) (hd : st.down = false) (hl : st.dur.length = m + 2) (hm : 1 ≤ m) (hm2 : m ≤ 64) {S' : JS} (hf : st.found = some S') :
    Calls Tryz.prog 20 #[.pointer (some ⟨vb, 0, none⟩)] w fun e w' => ∃ jb' tb', e = .returned (.tuple #[.pointer (some ⟨jb', 0, none⟩), .int .i64 0]) ∧ Wk w0 w' vb jb' bb tb' S' false st B X := by
  obtain ⟨rv, hen, F, G, k1, k2, k3, k4, k5, k6⟩ := h
  refine (open_yes k1.v hd hl hm hm2 hf).mono ?_
  rintro e w' ⟨jb', tb', rv', hen', rfl, hj, ht, hb, htb, hjf⟩
  have hs := hb.size
  refine ⟨jb', tb', rfl, rv', hen', F, G, ⟨hj, k1.v.below hb, ht, fun i hi hi2 => ?_, fun hi => (hjf tb' hi).2 rfl, fun hi => ?_⟩, k2.below hb, fun i hi => ?_, k4, k5.trans (hb.mono k5.size), fun x hx => ⟨(hb.block x.1 (heap_lt (k6 x hx).1)).trans (k6 x hx).1, fun hi => ?_, (k6 x hx).2.2⟩⟩
  · have h3 := (hjf i hi).1
    have h4 := k1.v.lt i hi2
    omega
  · have h4 := k1.v.lt tb' hi
    omega
  · unfold jvfoot at hi
    rcases List.mem_cons.1 hi with rfl | hi
    · exact ⟨fun hg => by have := k2.lt _ hg; omega, Nat.le_trans k5.size htb⟩
    rcases List.mem_append.1 hi with hi | hi
    · have := (hjf i hi).1
      exact ⟨fun hg => by have := k2.lt _ hg; omega, Nat.le_trans k5.size this⟩
    · exact k3 i (by simp [jvfoot, hi])
  · have hx1 := heap_lt (k6 x hx).1
    unfold jvfoot at hi
    rcases List.mem_cons.1 hi with e | hi
    · omega
    rcases List.mem_append.1 hi with hi | hi
    · have := (hjf _ hi).1; omega
    · exact (k6 x hx).2.1 (by simp [jvfoot, hi])
theorem kread (k : Int) (h : Wk w0 w vb jb bb tb S false st B X) (hS : S.wf (256 * m) c) (hc : c ≤ 1048576) :
    Calls Tryz.prog 39 #[.pointer (some ⟨jb, 0, none⟩), .int .i64 k] w fun e w' => e = .returned (.tuple #[.string (S.readP k).1, .int .i64 ((S.readP k).2 : Int)]) ∧ Wk w0 w' vb jb bb tb S false st B X :=
  h.callL _ (fun _ _ _ _ j _ => (jread_any k j.j (by have := hS.nums; omega) (by have := hS.nums; omega)).mono (by rintro e w' ⟨rfl, n, rfl⟩; exact ⟨rfl, below_drewN (Below.refl _ _)⟩))
theorem kfrom_no (k : Int) (h : Wk w0 w vb jb bb tb S false st B X) (hS : S.wf (256 * m) c) (hc : c ≤ 1048576) (hk : S.fromP k = none) :
    Calls Tryz.prog 40 #[.pointer (some ⟨jb, 0, none⟩), .int .i64 k] w fun e w' => e = .returned (.tuple #[.slice none 0 0, .int .i64 2]) ∧ Wk w0 w' vb jb bb tb S false st B X :=
  h.callL _ (fun _ _ _ _ j _ => (from_no k j.j (by have := hS.nums; omega) (by have := hS.nums; omega) hk).mono (by rintro e w' ⟨rfl, n, rfl⟩; exact ⟨rfl, below_drewN (Below.refl _ _)⟩))
theorem kfrom_yes (k : Int) (h : Wk w0 w vb jb bb tb S false st B X) (hS : S.wf (256 * m) c) (hc : c ≤ 1048576) {l : List Rc} (hk : S.fromP k = some l) :
    Calls Tryz.prog 40 #[.pointer (some ⟨jb, 0, none⟩), .int .i64 k] w fun e w' => (∃ ao cap, e = .returned (.tuple #[.slice ao l.length cap, .int .i64 0])) ∧ Wk w0 w' vb jb bb tb S false st B X :=
  h.callL _ (fun _ _ _ _ j _ => (from_yes k j.j (by have := hS.nums; omega) (by have := hS.nums; omega) hk).mono (by
    rintro e w' ⟨v, rfl, ho, hb⟩
    obtain ⟨ao, cap, rfl⟩ := row_shape ho
    exact ⟨⟨_, _, rfl⟩, hb⟩))
/-! ### the book -/
theorem kbappend (d : ByteArray) (h : Wk w0 w vb jb bb tb S br st B X) (hA : B.area.length = 256 * m) (hm2 : m ≤ 64) (hS : B.s.wf (256 * m) c) (hc : c ≤ 1048575) :
    Calls Tryz.prog 25 #[.pointer (some ⟨bb, 0, none⟩), .string d] w fun e w' => e = .returned (.tuple #[.int .i64 (B.append d).1, .int .i64 ((B.append d).2.1 : Int)]) ∧ Wk w0 w' vb jb bb tb S br st (B.append d).2.2 X := by
  have hn := hS.nums
  have hp := hS.pos
  have h1 := hS.en_le
  have h2 := hS.beg_le
  have hb := hS.recs_bound (by omega)
  have hco := hS.comm
  exact h.callB _ (fun G k => bappend_any d k hco (by omega) (fun r hr => (hb r hr).1) (by omega) (by omega) (by omega) (by omega))
theorem kbcommit_none (h : Wk w0 w vb jb bb tb S br st B X) (hS : B.s.wf (256 * m) c) (hc : c ≤ 1048576) (he : B.s.comm = B.s.recs.length) :
    Calls Tryz.prog 34 #[.pointer (some ⟨bb, 0, none⟩)] w fun e w' => e = .returned (.tuple #[]) ∧ Wk w0 w' vb jb bb tb S br st B X := by
  have hn := hS.nums
  refine h.callL _ (fun _ _ _ _ _ k => ?_)
  obtain ⟨_, _, _, _, _, _, _, k, _⟩ := k
  exact (bcommit_none k he (by omega) (by omega)).mono (by rintro e w' ⟨rfl, n, rfl⟩; exact ⟨rfl, below_drewN (Below.refl _ _)⟩)
theorem kbcommit (h : Wk w0 w vb jb bb tb S br st B X) (hA : B.area.length = 256 * m) (hm : 1 ≤ m) (hm2 : m ≤ 64) (hS : B.s.wf (256 * m) c) (hc : c ≤ 1048576) (hlt : B.s.comm < B.s.recs.length) :
    Calls Tryz.prog 34 #[.pointer (some ⟨bb, 0, none⟩)] w fun e w' => e = .returned (.tuple #[]) ∧ Wk w0 w' vb jb bb tb S br st B.commit X := by
  have hn := hS.nums
  have hp := hS.pos
  have h1 := hS.en_le
  have h2 := hS.beg_le
  have hhb := hS.h
  have hb := hS.recs_bound hc
  exact h.callB _ (fun G k => bcommit_go k hlt (by omega) (by omega) (by omega) (by omega) (by omega) hb (by omega) (by omega))
theorem kbtrunc_high (k : Int) (h : Wk w0 w vb jb bb tb S br st B X) (hS : B.s.wf (256 * m) c) (hc : c ≤ 1048576) (hk : B.s.durable < k) :
    Calls Tryz.prog 43 #[.pointer (some ⟨bb, 0, none⟩), .int .i64 k] w fun e w' => e = .returned (.int .i64 2) ∧ Wk w0 w' vb jb bb tb S br st B X :=
  h.callL _ (fun _ _ _ _ _ j => (btrunc_high k j hS.comm (by have := hS.nums; omega) (by have := hS.nums; omega) hk).mono (by rintro e w' ⟨rfl, n, rfl⟩; exact ⟨rfl, below_drewN (Below.refl _ _)⟩))
theorem kbtrunc_low (k : Int) (h : Wk w0 w vb jb bb tb S br st B X) (hS : B.s.wf (256 * m) c) (hc : c ≤ 1048576) (hk : k ≤ B.s.durable) (hk2 : k < (B.s.first : Int)) :
    Calls Tryz.prog 43 #[.pointer (some ⟨bb, 0, none⟩), .int .i64 k] w fun e w' => e = .returned (.int .i64 0) ∧ Wk w0 w' vb jb bb tb S br st B X :=
  h.callL _ (fun _ _ _ _ _ j => (btrunc_low k j hS.comm (by have := hS.nums; omega) (by have := hS.nums; omega) hk hk2).mono (by rintro e w' ⟨rfl, n, rfl⟩; exact ⟨rfl, below_drewN (Below.refl _ _)⟩))
theorem kbtrunc (h : Wk w0 w vb jb bb tb S br st B X) (hS : B.s.wf (256 * m) c) (hc : c ≤ 1048575) {k : Nat} (hk1 : 1 ≤ k) (hk : k ≤ B.s.comm) :
    Calls Tryz.prog 43 #[.pointer (some ⟨bb, 0, none⟩), .int .i64 ((B.s.first : Int) + k - 1)] w fun e w' => e = .returned (.int .i64 0) ∧ Wk w0 w' vb jb bb tb S br st (BS.header B (B.s.drop k)) X :=
  h.callB _ (fun G j => btrunc_go j hS hc (fun r hr => (hS.recs_bound (by omega) r hr).1) hk1 hk)
theorem kbreopen (h : Wk w0 w vb jb bb tb S br st B X) (hS : B.s.wf (256 * m) c) (hc : c ≤ 1048576) :
    Calls Tryz.prog 44 #[.pointer (some ⟨bb, 0, none⟩)] w fun e w' => e = .returned (.tuple #[]) ∧ Wk w0 w' vb jb bb tb S br st B.reopen X :=
  h.callB _ (fun G j => breopen_any j hS.comm (by have := hS.nums; omega) (by have := hS.nums; omega))
theorem kbdurable (h : Wk w0 w vb jb bb tb S br st B X) (hS : B.s.wf (256 * m) c) (hc : c ≤ 1048576) :
    Calls Tryz.prog 42 #[.pointer (some ⟨bb, 0, none⟩)] w fun e w' => e = .returned (.int .i64 B.s.durable) ∧ ∃ n, w' = w.drewN n := by
  obtain ⟨rv, hen, F, G, k1, k2, k3, k4, k5, k6⟩ := h
  obtain ⟨_, _, _, _, _, _, _, k, _⟩ := k2
  exact bdurable_any k hS.comm (by have := hS.nums; omega) (by have := hS.nums; omega)
theorem kagrees (h : Wk w0 w vb jb bb tb S false st B X) (hs : B.s = S) (hA : B.area.length = 256 * m) (hl : st.dur.length = m + 2) (hm2 : m ≤ 64) (hS : S.wf (256 * m) c) (hc : c ≤ 1048576) :
    Calls Tryz.prog 15 #[.pointer (some ⟨bb, 0, none⟩), .pointer (some ⟨jb, 0, none⟩)] w fun e w' => e = .returned (.bool true) ∧ Wk w0 w' vb jb bb tb S false st B X :=
  h.callL _ (fun _ _ _ _ k j => agrees_any k j hs hA hl hm2 hS hc)
theorem kimage (h : Wk w0 w vb jb bb tb S br st B X) (hI : Inv st B m c) :
    Calls Tryz.prog 22 #[.pointer (some ⟨bb, 0, none⟩), .pointer (some ⟨vb, 0, none⟩)] w fun e w' => e = .returned (.bool true) ∧ Wk w0 w' vb jb bb tb S br st B X :=
  h.callL _ (fun _ _ _ _ k j => bimage_any j k.v hI.up hI.len hI.m2 hI.h0 hI.h1 hI.area)
/-- cells of the book -/
theorem Wk.book (h : Wk w0 w vb jb bb tb S br st B X) : ∃ ao cap, w.cell? ⟨bb, 4, none⟩ = some (.int .i64 (B.s.first : Int)) ∧ w.cell? ⟨bb, 6, none⟩ = some (.slice ao B.s.recs.length cap) ∧
    w.ownsRow 0 82 3 (.slice ao B.s.recs.length cap) B.s.recs.length (bcells B.s.comm B.s.recs) ∧ bb < w.heap.size := by
  obtain ⟨rv, hen, F, G, k1, k2, k3, k4, k5, k6⟩ := h
  obtain ⟨_, _, _, _, _, _, vr, k, _⟩ := k2
  obtain ⟨ao, cap, hv⟩ := brow_shape k.rs
  have hr := k.rs
  have h6 := k.blk.cell 6
  simp at h6
  rw [hv] at hr h6
  exact ⟨ao, cap, k.blk.cell 4, h6, hr, k.blk.lt⟩
theorem Wk.vol (h : Wk w0 w vb jb bb tb S br st B X) : ∃ F, VolF w vb st F := by
  obtain ⟨rv, hen, F, G, k1, _⟩ := h
  exact ⟨F, k1.v⟩
end
end Go.Proofs.YtfdnpchbbngpjaaGreat
namespace Go.Proofs.YtfdnpchbbngpjaaGreat
attribute [local go_sem ↓] Go.wp_at_zero Go.wp_at_succ
open Go.RowKit Go.Maps

/-- an operation as data -/
structure JO where
  kind : Nat
  num : Int
  data : Nat
structure JO.ok (o : JO) : Prop where
  kind : o.kind < 256
  num : -32768 ≤ o.num ∧ o.num ≤ 32767
  data : o.data < 65536
def JO.val (o : JO) : Value := .agg #[.int .u8 (o.kind : Int), .int .i16 o.num, .int .u16 (o.data : Int)]
/-- the device failed during an operation -/
structure Fell (st st' : VS) (B B' : BS) (m c : Nat) : Prop where
  calm : ¬ Calm st
  down : st'.down = true
  wf : st'.wf
  s : B'.s.wf (256 * m) c
  area : B'.area.length = 256 * m
  again : ∀ cs, ∃ S, (S = B.s.reopen ∨ S = B'.s.reopen) ∧ Inv (st'.start cs) ⟨(st'.start cs).sct 0, (st'.start cs).sct 1, (st'.start cs).area, S⟩ m c
def PfPost (w0 : World) (vb bb : Nat) (st : VS) (B : BS) (m c : Nat) (X : List (Nat × Obj)) (e : Ending) (w' : World) : Prop :=
  ∃ jb tb S br st' B', e = .returned (.tuple #[.pointer (some ⟨jb, 0, none⟩), .bool (!br)]) ∧ Wk w0 w' vb jb bb tb S br st' B' X ∧
    ((br = false ∧ Inv st' B' m (c + 1) ∧ B'.s = S ∧ (Calm st → Calm st')) ∨ (br = true ∧ Fell st st' B B' m (c + 1)))
theorem Inv.mono {st : VS} {B : BS} {m c d : Nat} (h : Inv st B m c) (hcd : c ≤ d) (hd : d ≤ 1048576) : Inv st B m d :=
  ⟨h.wf, h.up, h.pend, h.len, h.m1, h.m2, h.h0, h.h1, h.area, h.s.mono hcd, h.lies, h.cur, h.find, hd⟩
theorem reopen_full {S : JS} (h : S.comm = S.recs.length) : S.reopen = S := by
  unfold JS.reopen
  rw [h, List.take_length]
  cases S
  simp_all
theorem Wk.box {w0 w : World} {vb jb bb tb : Nat} {S : JS} {br : Bool} {st : VS} {B : BS} {X : List (Nat × Obj)} {g : Nat} {t : TypeId} {cs : Array Value} (h : Wk w0 w vb jb bb tb S br st B ((g, Obj.cells cs t (0, 0)) :: X)) : Blk w g t cs := h.blk (List.mem_cons_self ..)
section
variable {w0 w : World} {vb jb bb tb : Nat} {S : JS} {st : VS} {B : BS} {X : List (Nat × Obj)} {m c : Nat}
set_option maxRecDepth 100000 in
set_option maxHeartbeats 4000000 in
theorem perf_app (o : JO) (ho : o.ok) (hq : o.kind % 8 = 0 ∨ o.kind % 8 = 1 ∨ o.kind % 8 = 2) (h : Wk w0 w vb jb bb tb S false st B X) (hI : Inv st B m c) (hs : B.s = S) (hc : c + 2 ≤ 1048576) :
    Calls Tryz.prog 13 #[.pointer (some ⟨vb, 0, none⟩), .pointer (some ⟨jb, 0, none⟩), .pointer (some ⟨bb, 0, none⟩), o.val] w (PfPost w0 vb bb st B m c X) := by
  obtain ⟨k, nm, d⟩ := o
  obtain ⟨h1, ⟨h2, h3⟩, h4⟩ := ho
  unfold JO.val
  simp only at *
  have hS := hI.s
  have hA := hI.alen
  obtain ⟨e1, e2, e3, e4⟩ := hI.append_err (dataP d)
  rw [hs] at e1 e2 e3
  have hfin := hI.append (by omega) (dataP d)
  obtain ⟨u, hu⟩ : ∃ u, B.append (dataP d) = u := ⟨_, rfl⟩
  rw [hu] at e1 e2 e3 e4 hfin
  have hCA := fun (w' : World) (h : Wk w0 w' vb jb bb tb S false st B ((w.heap.size, .cells #[.int .u8 (k : Int), .int .i16 nm, .int .u16 (d : Int)] 42) :: X)) => kappend (dataP d) h hI.len (by rw [← hs]; exact hS) (by omega)
  rw [← e1, ← e2, ← e3] at hCA
  have hCB := fun (w' : World) (h : Wk w0 w' vb jb bb tb u.2.2.s false st B ((w.heap.size, .cells #[.int .u8 (k : Int), .int .i16 nm, .int .u16 (d : Int)] 42) :: X)) => kbappend (dataP d) h hA hI.m2 hS (by omega)
  rw [hu] at hCB
  obtain ⟨n, q, B'⟩ := u
  simp only at hCA hCB hfin
  have hW := h.alloc (.cells #[.int .u8 (k : Int), .int .i16 nm, .int .u16 (d : Int)] 42)
  have HF := Lib.hid hfin
  have HCA := Lib.hid hCA
  have HCB := Lib.hid hCB
  clear hI hS hA e1 e2 e3 e4 hu hCA hCB hfin h hs
  have hkI : (k : Int) % 8 = 0 ∨ (k : Int) % 8 = 1 ∨ (k : Int) % 8 = 2 := by omega
  rcases hkI with hkI | hkI | hkI
  all_goals
    go_enter Tryz.func13, Tryz.ntmps13
    go_wp2_with (first
      | (go_at_call 24; refine (dataOf_any d h4 _).mono ?_; rintro e w1 ⟨rfl, hb⟩; have hW := hW.below hb; clear hb; have kb : World.cell? w1 ⟨w.heap.size, 2, none⟩ = some (Value.int .u16 (d : Int)) := hW.box.cell 2)
      | (go_at_call 23; refine (HCA.out _ hW).mono ?_; rintro e w2 ⟨rfl, hW⟩; have kb : World.cell? w2 ⟨w.heap.size, 2, none⟩ = some (Value.int .u16 (d : Int)) := hW.box.cell 2)
      | (go_at_call 25; refine (HCB.out _ hW).mono ?_; rintro e w3 ⟨rfl, hW⟩))
    go_ret2
    exact ⟨jb, tb, _, false, st, B', rfl, hW.sub (fun x hx => List.mem_cons_of_mem _ hx), .inl ⟨rfl, HF.out, rfl, id⟩⟩
theorem header_s (B : BS) (s : JS) : (BS.header B s).s = s := by
  unfold BS.header BS.setHead
  split <;> rfl
theorem header_area (B : BS) (s : JS) : (BS.header B s).area = B.area := by
  unfold BS.header BS.setHead
  split <;> rfl
set_option maxRecDepth 100000 in
set_option maxHeartbeats 4000000 in
theorem perf_com_none (o : JO) (ho : o.ok) (hq : o.kind % 8 = 3 ∨ o.kind % 8 = 4) (h : Wk w0 w vb jb bb tb S false st B X) (hI : Inv st B m c) (hs : B.s = S) (hc : c + 2 ≤ 1048576) (he : B.s.comm = B.s.recs.length) :
    Calls Tryz.prog 13 #[.pointer (some ⟨vb, 0, none⟩), .pointer (some ⟨jb, 0, none⟩), .pointer (some ⟨bb, 0, none⟩), o.val] w (PfPost w0 vb bb st B m c X) := by
  obtain ⟨k, nm, d⟩ := o
  obtain ⟨h1, ⟨h2, h3⟩, h4⟩ := ho
  unfold JO.val
  simp only at *
  have hS := hI.s
  have hA := hI.alen
  have hW := h.alloc (.cells #[.int .u8 (k : Int), .int .i16 nm, .int .u16 (d : Int)] 42)
  have HCA := Lib.hid (fun (w' : World) (h : Wk w0 w' vb jb bb tb S false st B ((w.heap.size, .cells #[.int .u8 (k : Int), .int .i16 nm, .int .u16 (d : Int)] 42) :: X)) => kcommit_none h (by rw [← hs]; exact he))
  have HCB := Lib.hid (fun (w' : World) (h : Wk w0 w' vb jb bb tb S false st B ((w.heap.size, .cells #[.int .u8 (k : Int), .int .i16 nm, .int .u16 (d : Int)] 42) :: X)) => kbcommit_none h hS (by omega) he)
  have HF := Lib.hid (And.intro (hI.mono (Nat.le_succ c) (by omega)) hs)
  clear hI hS hA h hs he
  have hkI : (k : Int) % 8 = 3 ∨ (k : Int) % 8 = 4 := by omega
  rcases hkI with hkI | hkI
  all_goals
    go_enter Tryz.func13, Tryz.ntmps13
    go_wp2_with (first
      | (go_at_call 16; refine (HCA.out _ hW).mono ?_; rintro e w2 ⟨rfl, hW⟩)
      | (go_at_call 34; refine (HCB.out _ hW).mono ?_; rintro e w3 ⟨rfl, hW⟩))
    go_ret2
    exact ⟨jb, tb, _, false, st, B, rfl, hW.sub (fun x hx => List.mem_cons_of_mem _ hx), .inl ⟨rfl, HF.out.1, HF.out.2, id⟩⟩
set_option maxRecDepth 100000 in
set_option maxHeartbeats 4000000 in
theorem perf_com_go (o : JO) (ho : o.ok) (hq : o.kind % 8 = 3 ∨ o.kind % 8 = 4) (h : Wk w0 w vb jb bb tb S false st B X) (hI : Inv st B m c) (hs : B.s = S) (hc : c + 2 ≤ 1048576) (he : B.s.comm < B.s.recs.length) :
    Calls Tryz.prog 13 #[.pointer (some ⟨vb, 0, none⟩), .pointer (some ⟨jb, 0, none⟩), .pointer (some ⟨bb, 0, none⟩), o.val] w (PfPost w0 vb bb st B m c X) := by
  obtain ⟨k, nm, d⟩ := o
  obtain ⟨h1, ⟨h2, h3⟩, h4⟩ := ho
  unfold JO.val
  simp only at *
  have hS := hI.s
  have hA := hI.alen
  have hW := h.alloc (.cells #[.int .u8 (k : Int), .int .i16 nm, .int .u16 (d : Int)] 42)
  have hcs : B.commit.s = B.s.commit := by unfold BS.commit; rw [if_neg (by omega), header_s]
  have hca : B.commit.area.length = 256 * m := by unfold BS.commit; rw [if_neg (by omega), header_area, puts_length]; exact hA
  have hcr : B.commit.s.reopen = B.s.commit := by rw [hcs]; exact reopen_full rfl
  have HOK := Lib.hid (fun (L : List (Nat × ByteArray)) (hL : RingOK B.area (puts B.area (B.s.first + B.s.comm) (B.s.recs.drop B.s.comm)) m L) => hI.commit_ok (c := c) (by omega) he hL)
  have hCA := fun (w' : World) (h : Wk w0 w' vb jb bb tb S false st B ((w.heap.size, .cells #[.int .u8 (k : Int), .int .i16 nm, .int .u16 (d : Int)] 42) :: X)) => kcommit h hI.up hI.len hI.m1 hI.m2 (by rw [← hs]; exact hS) (by omega) (by rw [← hs]; exact he)
  rw [← hs, hI.area] at hCA
  have HCA := Lib.hid hCA
  have HCB := Lib.hid (fun (w' : World) (S' : JS) (br : Bool) (st' : VS) (h : Wk w0 w' vb jb bb tb S' br st' B ((w.heap.size, .cells #[.int .u8 (k : Int), .int .i16 nm, .int .u16 (d : Int)] 42) :: X)) => kbcommit h hA hI.m1 hI.m2 hS (by omega) he)
  have HF := Lib.hid (And.intro hcs (And.intro hca (And.intro hcr hS.commit)))
  rw [← hs] at hW
  clear hI hS hA h hs he hcs hca hcr hCA
  have hkI : (k : Int) % 8 = 3 ∨ (k : Int) % 8 = 4 := by omega
  rcases hkI with hkI | hkI
  all_goals
    go_enter Tryz.func13, Tryz.ntmps13
    go_wp2_with (first
      | (go_at_call 16; refine (HCA.out _ hW).mono ?_; rintro e w2 ⟨L, hL, rfl, hW⟩; have hr := HOK.out L hL; have hk := fun (hC : Calm st) => hC.commitV L B.s.commit.hd; obtain ⟨r, hre⟩ : ∃ r, st.commitV L B.s.commit.hd = r := ⟨_, rfl⟩; rw [hre] at hW hr hk ⊢; have HR := Lib.hid (And.intro hr hk); clear hr hk hre hL)
      | (go_at_call 34; refine (HCB.out _ _ _ _ hW).mono ?_; rintro e w3 ⟨rfl, hW⟩))
    go_ret2
    obtain ⟨hr, hk⟩ := HR.out
    rcases hr with ⟨hz, hin⟩ | ⟨hz, hdn, hwf, hag⟩
    · rw [hz] at hW
      exact ⟨jb, tb, _, false, r.2, B.commit, by rw [hz]; rfl, hW.sub (fun x hx => List.mem_cons_of_mem _ hx), .inl ⟨rfl, hin, HF.out.1, fun hC => (hk hC).1⟩⟩
    · rw [hz] at hW
      refine ⟨jb, tb, _, true, r.2, B.commit, by rw [hz]; rfl, hW.sub (fun x hx => List.mem_cons_of_mem _ hx), .inr ⟨rfl, fun hC => (hk hC).2 hz, hdn, hwf, by rw [HF.out.1]; exact HF.out.2.2.2, HF.out.2.1, fun cs => ?_⟩⟩
      rw [HF.out.2.2.1]
      exact hag cs
set_option maxRecDepth 100000 in
set_option maxHeartbeats 4000000 in
theorem perf_open (o : JO) (ho : o.ok) (hq : o.kind % 8 = 6) (h : Wk w0 w vb jb bb tb S false st B X) (hI : Inv st B m c) (hc : c + 2 ≤ 1048576) :
    Calls Tryz.prog 13 #[.pointer (some ⟨vb, 0, none⟩), .pointer (some ⟨jb, 0, none⟩), .pointer (some ⟨bb, 0, none⟩), o.val] w (PfPost w0 vb bb st B m c X) := by
  obtain ⟨k, nm, d⟩ := o
  obtain ⟨h1, ⟨h2, h3⟩, h4⟩ := ho
  unfold JO.val
  simp only at *
  have hS := hI.s
  have hA := hI.alen
  have hW := h.alloc (.cells #[.int .u8 (k : Int), .int .i16 nm, .int .u16 (d : Int)] 42)
  have HCA := Lib.hid (fun (w' : World) (h : Wk w0 w' vb jb bb tb S false st B ((w.heap.size, .cells #[.int .u8 (k : Int), .int .i16 nm, .int .u16 (d : Int)] 42) :: X)) => kopen h hI.up hI.len hI.m1 hI.m2 hI.found)
  have HCB := Lib.hid (fun (w' : World) (jb' tb' : Nat) (S' : JS) (h : Wk w0 w' vb jb' bb tb' S' false st B ((w.heap.size, .cells #[.int .u8 (k : Int), .int .i16 nm, .int .u16 (d : Int)] 42) :: X)) => kbreopen h hS (by omega))
  have HF := Lib.hid (hI.reopen.mono (Nat.le_succ c) (by omega))
  clear hI hS hA h
  have hkI : (k : Int) % 8 = 6 := by omega
  all_goals
    go_enter Tryz.func13, Tryz.ntmps13
    go_wp2_with (first
      | (go_at_call 20; refine (HCA.out _ hW).mono ?_; rintro e w2 ⟨jb', tb', rfl, hW⟩)
      | (go_at_call 44; refine (HCB.out _ _ _ _ hW).mono ?_; rintro e w3 ⟨rfl, hW⟩))
    go_ret2
    exact ⟨jb', tb', _, false, st, B.reopen, rfl, hW.sub (fun x hx => List.mem_cons_of_mem _ hx), .inl ⟨rfl, HF.out, rfl, id⟩⟩
set_option maxRecDepth 100000 in
set_option maxHeartbeats 4000000 in
theorem perf_trunc (o : JO) (ho : o.ok) (hq : o.kind % 8 = 5) (h : Wk w0 w vb jb bb tb S false st B X) (hI : Inv st B m c) (hs : B.s = S) (hc : c + 2 ≤ 1048576) :
    Calls Tryz.prog 13 #[.pointer (some ⟨vb, 0, none⟩), .pointer (some ⟨jb, 0, none⟩), .pointer (some ⟨bb, 0, none⟩), o.val] w (PfPost w0 vb bb st B m c X) := by
  obtain ⟨k, nm, d⟩ := o
  obtain ⟨h1, ⟨h2, h3⟩, h4⟩ := ho
  unfold JO.val
  simp only at *
  have hS := hI.s
  have hA := hI.alen
  have hW := h.alloc (.cells #[.int .u8 (k : Int), .int .i16 nm, .int .u16 (d : Int)] 42)
  have kb1 : Blk (w.alloc (.cells #[.int .u8 (k : Int), .int .i16 nm, .int .u16 (d : Int)] 42)) w.heap.size 42 #[.int .u8 (k : Int), .int .i16 nm, .int .u16 (d : Int)] := Blk.new _ _ _
  have kb : (w.alloc (.cells #[.int .u8 (k : Int), .int .i16 nm, .int .u16 (d : Int)] 42)).cell? ⟨w.heap.size, 1, none⟩ = some (.int .i16 nm) := kb1.cell 1
  have HD := Lib.hid (fun (n : Nat) => kbdurable (hW.below (below_drewN (n := n) (Below.refl _ _))) hS (by omega))
  obtain ⟨du, hdu⟩ : ∃ du, B.s.durable = du := ⟨_, rfl⟩
  have hdb : -1 ≤ du ∧ du ≤ 2097152 := by rw [← hdu]; unfold JS.durable; have := hS.nums; have := hS.comm; omega
  rw [hdu] at HD
  have hkI : (k : Int) % 8 = 5 := by omega
  clear kb1
  go_enter Tryz.func13, Tryz.ntmps13
  go_wp2_with fail
  obtain ⟨W, hWe⟩ : ∃ W, w.alloc (.cells #[.int .u8 (k : Int), .int .i16 nm, .int .u16 (d : Int)] 42) = W := ⟨_, rfl⟩
  rw [hWe] at kb hW HD ⊢
  go_quiet ((go_at_call 42; refine (HD.out _).mono ?_; rintro e w' ⟨rfl, q, rfl⟩; exact ⟨rfl, _, World.drewN_drewN ..⟩))
  have hW := hW.below (below_drewN (n := nq) (Below.refl _ W))
  obtain ⟨tn, htn⟩ : ∃ tn, wrap64 (wrap64 (du + nm.tmod 8) - 5) = tn := ⟨_, rfl⟩
  rw [htn]
  subst hs
  clear kb HD hWe htn
  by_cases c1 : du < tn
  · have HCA := Lib.hid (fun (w' : World) (h : Wk w0 w' vb jb bb tb B.s false st B ((w.heap.size, .cells #[.int .u8 (k : Int), .int .i16 nm, .int .u16 (d : Int)] 42) :: X)) => ktrunc_high tn h hS (by omega) (by rw [hdu]; exact c1))
    have HCB := Lib.hid (fun (w' : World) (h : Wk w0 w' vb jb bb tb B.s false st B ((w.heap.size, .cells #[.int .u8 (k : Int), .int .i16 nm, .int .u16 (d : Int)] 42) :: X)) => kbtrunc_high tn h hS (by omega) (by rw [hdu]; exact c1))
    have HF := Lib.hid (hI.mono (Nat.le_succ c) (by omega))
    clear hI hS hA h
    go_wp2_with (first
      | (go_at_call 17; refine (HCA.out _ hW).mono ?_; rintro e w2 ⟨rfl, hW⟩)
      | (go_at_call 43; refine (HCB.out _ hW).mono ?_; rintro e w3 ⟨rfl, hW⟩))
    go_ret2
    exact ⟨jb, tb, _, false, st, B, rfl, hW.sub (fun x hx => List.mem_cons_of_mem _ hx), .inl ⟨rfl, HF.out, rfl, id⟩⟩
  · by_cases c2 : tn < (B.s.first : Int)
    · have HCA := Lib.hid (fun (w' : World) (h : Wk w0 w' vb jb bb tb B.s false st B ((w.heap.size, .cells #[.int .u8 (k : Int), .int .i16 nm, .int .u16 (d : Int)] 42) :: X)) => ktrunc_low tn h hS (by omega) (by rw [hdu]; omega) c2)
      have HCB := Lib.hid (fun (w' : World) (h : Wk w0 w' vb jb bb tb B.s false st B ((w.heap.size, .cells #[.int .u8 (k : Int), .int .i16 nm, .int .u16 (d : Int)] 42) :: X)) => kbtrunc_low tn h hS (by omega) (by rw [hdu]; omega) c2)
      have HF := Lib.hid (hI.mono (Nat.le_succ c) (by omega))
      clear hI hS hA h
      go_wp2_with (first
        | (go_at_call 17; refine (HCA.out _ hW).mono ?_; rintro e w2 ⟨rfl, hW⟩)
        | (go_at_call 43; refine (HCB.out _ hW).mono ?_; rintro e w3 ⟨rfl, hW⟩))
      go_ret2
      exact ⟨jb, tb, _, false, st, B, rfl, hW.sub (fun x hx => List.mem_cons_of_mem _ hx), .inl ⟨rfl, HF.out, rfl, id⟩⟩
    · obtain ⟨kk, hkk⟩ : ∃ kk : Nat, tn - (B.s.first : Int) + 1 = (kk : Int) := Int.eq_ofNat_of_zero_le (by omega)
      have hk1 : 1 ≤ kk := by omega
      have hk2 : kk ≤ B.s.comm := by have : B.s.durable = (B.s.first : Int) + B.s.comm - 1 := rfl; omega
      have htn : tn = (B.s.first : Int) + kk - 1 := by omega
      have hCA := fun (w' : World) (h : Wk w0 w' vb jb bb tb B.s false st B ((w.heap.size, .cells #[.int .u8 (k : Int), .int .i16 nm, .int .u16 (d : Int)] 42) :: X)) => ktrunc h hS (by omega) hk1 hk2
      have hCB := fun (w' : World) (S' : JS) (br : Bool) (st' : VS) (h : Wk w0 w' vb jb bb tb S' br st' B ((w.heap.size, .cells #[.int .u8 (k : Int), .int .i16 nm, .int .u16 (d : Int)] 42) :: X)) => kbtrunc h hS (by omega) hk1 hk2
      rw [← htn] at hCA hCB
      have hr := hI.trunc_ok (c := c) (by omega) hk2
      have hk := fun (hC : Calm st) => hC.putHd (B.s.drop kk).hd
      have HF := Lib.hid (And.intro (header_s B (B.s.drop kk)) (And.intro (show (BS.header B (B.s.drop kk)).area.length = 256 * m by rw [header_area]; exact hA) (hS.drop hk2)))
      obtain ⟨B', hB'⟩ : ∃ B', BS.header B (B.s.drop kk) = B' := ⟨_, rfl⟩
      rw [hB'] at hCB HF hr
      obtain ⟨r, hre⟩ : ∃ r, st.putHd (B.s.drop kk).hd = r := ⟨_, rfl⟩
      rw [hre] at hCA hr hk
      have HCA := Lib.hid hCA
      have HCB := Lib.hid hCB
      have HR := Lib.hid (And.intro hr hk)
      clear hI hS hA h hCA hCB hr hk hre hB' htn hkk hdu hdb
      go_wp2_with (first
        | (go_at_call 17; refine (HCA.out _ hW).mono ?_; rintro e w2 ⟨rfl, hW⟩)
        | (go_at_call 43; refine (HCB.out _ _ _ _ hW).mono ?_; rintro e w3 ⟨rfl, hW⟩))
      go_ret2
      obtain ⟨hr, hk⟩ := HR.out
      rcases hr with ⟨hz, hin⟩ | ⟨hz, hdn, hwf, hag⟩
      · rw [hz] at hW
        exact ⟨jb, tb, _, false, r.2, B', by rw [hz]; rfl, hW.sub (fun x hx => List.mem_cons_of_mem _ hx), .inl ⟨rfl, hin, HF.out.1, fun hC => (hk hC).1⟩⟩
      · rw [hz] at hW
        refine ⟨jb, tb, _, true, r.2, B', by rw [hz]; rfl, hW.sub (fun x hx => List.mem_cons_of_mem _ hx), .inr ⟨rfl, fun hC => (hk hC).2 hz, hdn, hwf, by rw [HF.out.1]; exact HF.out.2.2, HF.out.2.1, fun cs => ?_⟩⟩
        rw [HF.out.1]
        exact hag cs
set_option maxRecDepth 100000 in
set_option maxHeartbeats 4000000 in
theorem perf_read (o : JO) (ho : o.ok) (hq : o.kind % 8 = 7) (h : Wk w0 w vb jb bb tb S false st B X) (hI : Inv st B m c) (hs : B.s = S) (hc : c + 2 ≤ 1048576) :
    Calls Tryz.prog 13 #[.pointer (some ⟨vb, 0, none⟩), .pointer (some ⟨jb, 0, none⟩), .pointer (some ⟨bb, 0, none⟩), o.val] w (PfPost w0 vb bb st B m c X) := by
  obtain ⟨k, nm, d⟩ := o
  obtain ⟨h1, ⟨h2, h3⟩, h4⟩ := ho
  unfold JO.val
  simp only at *
  have hS := hI.s
  have hA := hI.alen
  have hW := h.alloc (.cells #[.int .u8 (k : Int), .int .i16 nm, .int .u16 (d : Int)] 42)
  subst hs
  have hkI : (k : Int) % 8 = 7 := by omega
  have HF := Lib.hid (hI.mono (Nat.le_succ c) (by omega))
  obtain ⟨n, hn⟩ : ∃ n, B.s.recs.length = n := ⟨_, rfl⟩
  have hsn := hS.nums
  have hso := hS.one
  rw [hn] at hsn
  have hla : B.s.last = (B.s.first : Int) + n - 1 := by unfold JS.last; rw [hn]
  have ew : IntKind.i64.wrap (nm - (B.s.first : Int)) = nm - (B.s.first : Int) := by rw [IntKind.wrap_i64] <;> omega
  by_cases c1 : nm < (B.s.first : Int) ∨ (B.s.first : Int) + n < nm
  · have hr : B.s.readP nm = (⟨#[]⟩, 8) := by unfold JS.readP JS.has; rw [hla, if_neg (by simp; omega)]
    have hfr : B.s.fromP nm = none := by unfold JS.fromP; rw [hla, if_neg (by omega)]
    have hCA := fun (w' : World) (h : Wk w0 w' vb jb bb tb B.s false st B ((w.heap.size, .cells #[.int .u8 (k : Int), .int .i16 nm, .int .u16 (d : Int)] 42) :: X)) => kread nm h hS (by omega)
    rw [hr] at hCA
    have HCA := Lib.hid hCA
    have HCB := Lib.hid (fun (w' : World) (h : Wk w0 w' vb jb bb tb B.s false st B ((w.heap.size, .cells #[.int .u8 (k : Int), .int .i16 nm, .int .u16 (d : Int)] 42) :: X)) => kfrom_no nm h hS (by omega) hfr)
    clear hI hS hA h hr hfr hCA
    go_enter Tryz.func13, Tryz.ntmps13
    go_wp2_with (first
      | (go_at_call 39; refine (HCA.out _ hW).mono ?_; rintro e w2 ⟨rfl, hW⟩; have kb : World.cell? w2 ⟨w.heap.size, 1, none⟩ = some (.int .i16 nm) := hW.box.cell 1)
      | (go_at_call 40; refine (HCB.out _ hW).mono ?_; rintro e w3 ⟨rfl, hW⟩; have kb : World.cell? w3 ⟨w.heap.size, 1, none⟩ = some (.int .i16 nm) := hW.box.cell 1; obtain ⟨bo, bcap, c4, c6, hrow, hlb⟩ := hW.book))
    obtain ⟨dd, hdd⟩ : ∃ dd, nm - (B.s.first : Int) = dd := ⟨_, rfl⟩
    rw [hn] at c6
    rw [hdd] at ew
    clear hrow
    by_cases c2 : dd < 0
    case' pos =>
      have d1 : decide (dd < 0) = true := by simpa using c2
    case' neg =>
      have d1 : decide (dd < 0) = false := by simpa using c2
      have d2 : decide ((n : Int) < dd) = true := by simp; omega
    all_goals
      go_quiet (fail)
      go_wp2_with fail
      go_ret2
      exact ⟨jb, tb, _, false, st, B, rfl, (hW.below (below_drewN (Below.refl _ _))).sub (fun x hx => List.mem_cons_of_mem _ hx), .inl ⟨rfl, HF.out, rfl, id⟩⟩
  · obtain ⟨j, hj⟩ : ∃ j : Nat, nm - (B.s.first : Int) = (j : Int) := Int.eq_ofNat_of_zero_le (by omega)
    have hfr : B.s.fromP nm = some (B.s.recs.drop j) := by unfold JS.fromP; rw [hla, if_pos (by omega), hj]; rfl
    have hdl : (B.s.recs.drop j).length = n - j := by rw [List.length_drop, hn]
    have hCB := fun (w' : World) (h : Wk w0 w' vb jb bb tb B.s false st B ((w.heap.size, .cells #[.int .u8 (k : Int), .int .i16 nm, .int .u16 (d : Int)] 42) :: X)) => kfrom_yes nm h hS (by omega) hfr
    rw [hdl] at hCB
    have HCB := Lib.hid hCB
    rw [hj] at ew
    have hjn : j ≤ n := by omega
    by_cases c2 : j = n
    · have hr : B.s.readP nm = (⟨#[]⟩, 8) := by unfold JS.readP JS.has; rw [hla, if_neg (by simp; omega)]
      have hCA := fun (w' : World) (h : Wk w0 w' vb jb bb tb B.s false st B ((w.heap.size, .cells #[.int .u8 (k : Int), .int .i16 nm, .int .u16 (d : Int)] 42) :: X)) => kread nm h hS (by omega)
      rw [hr] at hCA
      have HCA := Lib.hid hCA
      clear hI hS hA h hr hfr hCA hCB
      subst c2
      rw [Nat.sub_self] at HCB
      go_enter Tryz.func13, Tryz.ntmps13
      go_wp2_with (first
        | (go_at_call 39; refine (HCA.out _ hW).mono ?_; rintro e w2 ⟨rfl, hW⟩; have kb : World.cell? w2 ⟨w.heap.size, 1, none⟩ = some (.int .i16 nm) := hW.box.cell 1)
        | (go_at_call 40; refine (HCB.out _ hW).mono ?_; rintro e w3 ⟨⟨lo, lcap, rfl⟩, hW⟩; have kb : World.cell? w3 ⟨w.heap.size, 1, none⟩ = some (.int .i16 nm) := hW.box.cell 1; obtain ⟨bo, bcap, c4, c6, hrow, hlb⟩ := hW.book))
      rw [hn] at c6
      clear hrow
      go_quiet (fail)
      go_wp2_with fail
      go_ret2
      exact ⟨jb, tb, _, false, st, B, rfl, (hW.below (below_drewN (Below.refl _ _))).sub (fun x hx => List.mem_cons_of_mem _ hx), .inl ⟨rfl, HF.out, rfl, id⟩⟩
    · obtain ⟨r, hr⟩ : ∃ r, B.s.recs[j]? = some r := ⟨_, List.getElem?_eq_getElem (by omega)⟩
      have hrd := JS.readP_at hr
      rw [show (B.s.first : Int) + (j : Int) = nm by omega] at hrd
      have hCA := fun (w' : World) (h : Wk w0 w' vb jb bb tb B.s false st B ((w.heap.size, .cells #[.int .u8 (k : Int), .int .i16 nm, .int .u16 (d : Int)] 42) :: X)) => kread nm h hS (by omega)
      rw [hrd] at hCA
      have HCA := Lib.hid hCA
      have HR := Lib.hid hr
      clear hI hS hA h hr hrd hfr hCA hCB
      go_enter Tryz.func13, Tryz.ntmps13
      go_wp2_with (first
        | (go_at_call 39; refine (HCA.out _ hW).mono ?_; rintro e w2 ⟨rfl, hW⟩; have kb : World.cell? w2 ⟨w.heap.size, 1, none⟩ = some (.int .i16 nm) := hW.box.cell 1)
        | (go_at_call 40; refine (HCB.out _ hW).mono ?_; rintro e w3 ⟨⟨lo, lcap, rfl⟩, hW⟩; have kb : World.cell? w3 ⟨w.heap.size, 1, none⟩ = some (.int .i16 nm) := hW.box.cell 1; obtain ⟨bo, bcap, c4, c6, hrow, hlb⟩ := hW.book))
      rw [hn] at c6 hrow
      obtain ⟨g, rfl, r0, _, _⟩ := rec_cells hrow HR.out (by omega)
      clear hrow
      have ewn : IntKind.i64.wrap ((n : Int) - (j : Int)) = ((n - j : Nat) : Int) := by rw [IntKind.wrap_i64] <;> omega
      go_quiet (fail)
      go_wp2_with fail
      go_quiet (fail)
      go_wp2_with fail
      go_ret2
      exact ⟨jb, tb, _, false, st, B, rfl, (hW.below (below_drewN (below_drewN (Below.refl _ _)))).sub (fun x hx => List.mem_cons_of_mem _ hx), .inl ⟨rfl, HF.out, rfl, id⟩⟩
theorem perform_any (o : JO) (ho : o.ok) (h : Wk w0 w vb jb bb tb S false st B X) (hI : Inv st B m c) (hs : B.s = S) (hc : c + 2 ≤ 1048576) :
    Calls Tryz.prog 13 #[.pointer (some ⟨vb, 0, none⟩), .pointer (some ⟨jb, 0, none⟩), .pointer (some ⟨bb, 0, none⟩), o.val] w (PfPost w0 vb bb st B m c X) := by
  have hcm := hI.s.comm
  by_cases k1 : o.kind % 8 = 0 ∨ o.kind % 8 = 1 ∨ o.kind % 8 = 2
  · exact perf_app o ho k1 h hI hs hc
  by_cases k2 : o.kind % 8 = 3 ∨ o.kind % 8 = 4
  · by_cases he : B.s.comm = B.s.recs.length
    · exact perf_com_none o ho k2 h hI hs hc he
    · exact perf_com_go o ho k2 h hI hs hc (by omega)
  by_cases k3 : o.kind % 8 = 5
  · exact perf_trunc o ho k3 h hI hs hc
  by_cases k4 : o.kind % 8 = 6
  · exact perf_open o ho k4 h hI hc
  exact perf_read o ho (by omega) h hI hs hc
end
end Go.Proofs.YtfdnpchbbngpjaaGreat
namespace Go.Proofs.YtfdnpchbbngpjaaGreat
open Go.ChangeShapes Go.WideShapes Go.ChangeAt Go.RowKit Go.Deep

/-- the operation o lies at the place -/
def JOpAt (w : World) (b off : Nat) (o : JO) : Prop := o.ok ∧ w.cell? ⟨b, off, none⟩ = some (.int .u8 (o.kind : Int)) ∧ w.cell? ⟨b, off + 1, none⟩ = some (.int .i16 o.num) ∧ w.cell? ⟨b, off + 2, none⟩ = some (.int .u16 (o.data : Int))
/-- v is the slice of the operations l -/
def JOps (w : World) (v : Value) (l : List JO) : Prop :=
  ∃ (ao : Option Addr) (cap : Nat), v = .slice ao l.length cap ∧ l.length ≤ maxLen ∧ (0 < l.length → ∃ b off, ao = some ⟨b, off, none⟩ ∧ b < w.heap.size ∧ ∀ i (h : i < l.length), JOpAt w b (off + i * 3) l[i])
theorem JOps.below {w w' : World} {v : Value} {l : List JO} (h : JOps w v l) (hb : Below w.heap.size w w') : JOps w' v l := by
  obtain ⟨ao, cap, h1, h2, h3⟩ := h
  refine ⟨ao, cap, h1, h2, fun hp => ?_⟩
  obtain ⟨b, off, e, hlt, hc⟩ := h3 hp
  refine ⟨b, off, e, Nat.lt_of_lt_of_le hlt hb.size, fun i hi => ?_⟩
  obtain ⟨k1, k2, k3, k4⟩ := hc i hi
  exact ⟨k1, (hb.cell (p := ⟨b, _, none⟩) hlt).trans k2, (hb.cell (p := ⟨b, _, none⟩) hlt).trans k3, (hb.cell (p := ⟨b, _, none⟩) hlt).trans k4⟩
theorem vcell_lt {w : World} {b o : Nat} {v : Value} (h : w.cell? ⟨b, o, none⟩ = some v) : b < w.heap.size := by
  rcases Nat.lt_or_ge b w.heap.size with h' | h'
  · exact h'
  · simp [World.cell?, Array.getElem?_eq_none h'] at h
theorem u8of {n : Int} (h : (Lit.int .u8 n).wf = true) : ∃ m : Nat, n = (m : Int) ∧ m < 256 := by
  simp [Lit.wf, IntKind.min, IntKind.max, IntKind.signed, IntKind.bits] at h
  exact ⟨n.toNat, by omega, by omega⟩
theorem u16of {n : Int} (h : (Lit.int .u16 n).wf = true) : ∃ m : Nat, n = (m : Int) ∧ m < 65536 := by
  simp [Lit.wf, IntKind.min, IntKind.max, IntKind.signed, IntKind.bits] at h
  exact ⟨n.toNat, by omega, by omega⟩
theorem i16bd {n : Int} (h : (Lit.int .i16 n).wf = true) : -32768 ≤ n ∧ n ≤ 32767 := by
  simp [Lit.wf, IntKind.min, IntKind.max, IntKind.signed, IntKind.bits] at h
  omega
theorem op_fields : ∃ f0 f1 f2 : Field, Tryz.prog.underlying 42 = some (.struct #[f0, f1, f2]) ∧ f0.offset = 0 ∧ f1.offset = 1 ∧ f2.offset = 2 ∧
    f0.type = 5 ∧ f1.type = 39 ∧ f2.type = 40 := ⟨_, _, _, Tryz.underlying42, rfl, rfl, rfl, rfl, rfl, rfl⟩
set_option maxRecDepth 100000 in
/-- one operation read off four cells -/
theorem read_op {H : Type} {enc : TypeId × Value → H} {W : World} {base : Nat} {sp : Nat → Bool} {held : Bool} {n : Nat} {cs : List Value} {x : DataW H × List MemPlace}
    (h : DataW.trod enc Tryz.prog W base sp held n 42 cs = some x) : ∃ o : JO, o.ok ∧ cs = [.int .u8 (o.kind : Int), .int .i16 o.num, .int .u16 (o.data : Int)] := by
  obtain ⟨f0, f1, f2, hu, o0, o1, o2, t0, t1, t2⟩ := op_fields
  obtain ⟨xs, m, _, _, hlen, _, hf⟩ := DataW.trod_struct hu h
  rw [show Tryz.prog.cellsOf 42 = 3 from by kernel_rfl] at hlen
  have c1 : Tryz.prog.cellsOf 5 = 1 := by kernel_rfl
  have c2 : Tryz.prog.cellsOf 39 = 1 := by kernel_rfl
  have c3 : Tryz.prog.cellsOf 40 = 1 := by kernel_rfl
  match cs, hlen with
  | [v0, v1, v2], _ =>
    have g0 := hf 0 f0 rfl
    have g1 := hf 1 f1 rfl
    have g2 := hf 2 f2 rfl
    rw [o0, t0, c1] at g0
    rw [o1, t1, c2] at g1
    rw [o2, t2, c3] at g2
    simp only [List.drop_zero, List.drop_succ_cons, List.take_succ_cons, List.take_zero] at g0 g1 g2
    have some_ : ∀ i, i < 3 → ∃ y, xs[i]? = some y := fun i hi => ⟨xs[i]'(by simp_all), List.getElem?_eq_getElem (by simp_all)⟩
    obtain ⟨y0, e0⟩ := some_ 0 (by omega)
    obtain ⟨y1, e1⟩ := some_ 1 (by omega)
    obtain ⟨y2, e2⟩ := some_ 2 (by omega)
    obtain ⟨z0, q0, _, w0⟩ := DataW.trod_int Tryz.underlying5 (g0.trans e0)
    obtain ⟨z1, q1, _, w1⟩ := DataW.trod_int Tryz.underlying39 (g1.trans e1)
    obtain ⟨z2, q2, _, w2⟩ := DataW.trod_int Tryz.underlying40 (g2.trans e2)
    obtain ⟨n0, rfl, b0⟩ := u8of w0
    obtain ⟨n2, rfl, b2⟩ := u16of w2
    simp at q0 q1 q2
    exact ⟨⟨n0, z1, n2⟩, ⟨b0, i16bd w1, b2⟩, by rw [q0, q1, q2]⟩
set_option maxRecDepth 100000 in
theorem open_ops {H : Type} {enc : TypeId × Value → H} {W : World} {base b0 : Nat} {sp : Nat → Bool} {held : Bool} {r : Reach} {v : Value} {d : DataW H} {ps : List MemPlace}
    (hv : Value.okWide Tryz.prog W r b0 22 v) (hd : DataW.Trod enc Tryz.prog W base sp held 22 v d ps) : ∃ l, JOps W v l := by
  obtain ⟨a, len, cap, rfl⟩ := okWide_slice Tryz.underlying22 hv
  obtain ⟨fuel, hf⟩ := hd
  rcases open_slice Tryz.underlying22 hf with ⟨hcs, _⟩ | ⟨a', len', cap', m, n, D, Pl, hcs, hb, hl, hm, hmm, _, hi⟩
  · simp [Value.cells] at hcs
    obtain ⟨rfl, rfl, rfl⟩ := hcs
    exact ⟨[], none, 0, rfl, Nat.zero_le _, fun h => absurd h (by simp)⟩
  · simp [Value.cells] at hcs
    obtain ⟨rfl, rfl, rfl⟩ := hcs
    rw [show Tryz.prog.cellsOf 42 = 3 from by kernel_rfl] at hi
    have hlm : len ≤ m := by
      rw [hmm]; split <;> omega
    have hex : ∀ i, ∃ o : JO, i < len → o.ok ∧ ∀ j, j < 3 → W.cell? (a'.add (i * 3 + j)) = [Value.int .u8 (o.kind : Int), .int .i16 o.num, .int .u16 (o.data : Int)][j]? := by
      intro i
      by_cases hlt : i < len
      · obtain ⟨cs, hc, ht⟩ := hi i (by omega)
        obtain ⟨_, _, hat⟩ := World.cells?_some hc
        obtain ⟨o, ho, rfl⟩ := read_op ht
        refine ⟨o, fun _ => ⟨ho, fun j hj => ?_⟩⟩
        rw [← Go.Deep.add_add]
        exact hat j hj
      · exact ⟨⟨0, 0, 0⟩, fun h => absurd h hlt⟩
    obtain ⟨f, hf⟩ := Classical.skolem.1 hex
    refine ⟨(List.range len).map f, some a', cap, by simp, by simp; omega, fun hp => ?_⟩
    simp at hp
    obtain ⟨b, off, spot⟩ := a'
    have hspot : spot = none := by
      have h0 : W.cell? ((⟨b, off, spot⟩ : Addr).add (0 * 3 + 0)) = some (.int .u8 ((f 0).kind : Int)) := (hf 0 hp).2 0 (by omega)
      have h1 := World.cell?_spot h0
      exact h1
    subst hspot
    have hcell : ∀ i, i < len → ∀ j, j < 3 → W.cell? ⟨b, off + i * 3 + j, none⟩ = [Value.int .u8 ((f i).kind : Int), .int .i16 (f i).num, .int .u16 ((f i).data : Int)][j]? := by
      intro i h j hj
      rw [← (hf i h).2 j hj, Go.WideShapes.add_plain, Nat.add_assoc]
    refine ⟨b, off, rfl, vcell_lt (hcell 0 hp 0 (by omega)), fun i h => ?_⟩
    simp at h
    simp only [List.getElem_map, List.getElem_range]
    exact ⟨(hf i h).1, hcell i h 0 (by omega), hcell i h 1 (by omega), hcell i h 2 (by omega)⟩
set_option maxRecDepth 100000 in
theorem open_byts {H : Type} {enc : TypeId × Value → H} {W : World} {base b0 : Nat} {sp : Nat → Bool} {held : Bool} {r : Reach} {v : Value} {d : DataW H} {ps : List MemPlace}
    (hv : Value.okWide Tryz.prog W r b0 31 v) (hd : DataW.Trod enc Tryz.prog W base sp held 31 v d ps) : ∃ l, Byts W v l := by
  obtain ⟨a, len, cap, rfl⟩ := okWide_slice Tryz.underlying31 hv
  obtain ⟨fuel, hf⟩ := hd
  rcases open_ints Tryz.underlying31 Tryz.underlying5 (by kernel_rfl) hf with ⟨hcs, _⟩ | ⟨x, l, c, zs, hcs, _, hl, hm, hz, _, hcell, hwz⟩
  · simp [Value.cells] at hcs
    obtain ⟨rfl, rfl, rfl⟩ := hcs
    exact ⟨[], none, 0, rfl, Nat.zero_le _, fun h => absurd h (by simp)⟩
  · simp [Value.cells] at hcs
    obtain ⟨rfl, rfl, rfl⟩ := hcs
    have hlz : len ≤ zs.length := by rw [hz]; split <;> omega
    unfold maxLen at hm
    refine ⟨(List.range len).map fun i => UInt8.ofNat (zs.getD i 0).toNat, some x, cap, by simp, by simp; omega, fun hp => ?_⟩
    simp at hp
    obtain ⟨b, off, rfl, hc⟩ := ints_at hcell (by omega)
    refine ⟨b, off, rfl, vcell_lt (hc 0 (by omega)), fun j hj => ?_⟩
    simp at hj
    rw [hc j (by omega)]
    have hb := hwz (zs.getD j 0) (by simp [List.getD, List.getElem?_eq_getElem (show j < zs.length by omega)])
    obtain ⟨m, e, hm2⟩ := u8of hb
    simp only [List.getD_eq_getElem?_getD] at e
    simp [List.getD, List.getElem?_map, List.getElem?_range hj, e]
    omega
/-- v is the slice of the numbers l -/
def U16s (w : World) (v : Value) (l : List Nat) : Prop :=
  (∀ n, n ∈ l → n < 65536) ∧ ∃ (ao : Option Addr) (cap : Nat), v = .slice ao l.length cap ∧ l.length ≤ maxLen ∧ (0 < l.length → ∃ b off, ao = some ⟨b, off, none⟩ ∧ b < w.heap.size ∧ ∀ i, i < l.length → w.cell? ⟨b, off + i, none⟩ = some (.int .u16 (l.getD i 0 : Int)))
theorem U16s.below {w w' : World} {v : Value} {l : List Nat} (h : U16s w v l) (hb : Below w.heap.size w w') : U16s w' v l := by
  obtain ⟨h0, ao, cap, h1, h2, h3⟩ := h
  refine ⟨h0, ao, cap, h1, h2, fun hp => ?_⟩
  obtain ⟨b, off, e, hlt, hc⟩ := h3 hp
  exact ⟨b, off, e, Nat.lt_of_lt_of_le hlt hb.size, fun i hi => (hb.cell (p := ⟨b, _, none⟩) hlt).trans (hc i hi)⟩
set_option maxRecDepth 100000 in
theorem open_u16s {H : Type} {enc : TypeId × Value → H} {W : World} {base b0 : Nat} {sp : Nat → Bool} {held : Bool} {r : Reach} {v : Value} {d : DataW H} {ps : List MemPlace}
    (hv : Value.okWide Tryz.prog W r b0 55 v) (hd : DataW.Trod enc Tryz.prog W base sp held 55 v d ps) : ∃ l, U16s W v l := by
  obtain ⟨a, len, cap, rfl⟩ := okWide_slice Tryz.underlying55 hv
  obtain ⟨fuel, hf⟩ := hd
  rcases open_ints Tryz.underlying55 Tryz.underlying40 (by kernel_rfl) hf with ⟨hcs, _⟩ | ⟨x, l, c, zs, hcs, _, hl, hm, hz, _, hcell, hwz⟩
  · simp [Value.cells] at hcs
    obtain ⟨rfl, rfl, rfl⟩ := hcs
    exact ⟨[], fun _ h => (by cases h), none, 0, rfl, Nat.zero_le _, fun h => absurd h (by simp)⟩
  · simp [Value.cells] at hcs
    obtain ⟨rfl, rfl, rfl⟩ := hcs
    have hlz : len ≤ zs.length := by rw [hz]; split <;> omega
    have hb : ∀ j, j < len → ∃ m : Nat, zs.getD j 0 = (m : Int) ∧ m < 65536 := fun j hj => u16of (hwz (zs.getD j 0) (by simp [List.getD, List.getElem?_eq_getElem (show j < zs.length by omega)]))
    refine ⟨(List.range len).map fun i => (zs.getD i 0).toNat, fun n hn => ?_, some x, cap, by simp, by simp; omega, fun hp => ?_⟩
    · obtain ⟨j, hj, rfl⟩ := List.mem_map.1 hn
      obtain ⟨m, e, hm2⟩ := hb j (by simpa using hj)
      rw [e]; omega
    · simp at hp
      obtain ⟨b, off, rfl, hc⟩ := ints_at hcell (by omega)
      refine ⟨b, off, rfl, vcell_lt (hc 0 (by omega)), fun j hj => ?_⟩
      simp at hj
      rw [hc j (by omega)]
      obtain ⟨m, e, hm2⟩ := hb j hj
      simp only [List.getD_eq_getElem?_getD] at e
      simp [List.getD, List.getElem?_map, List.getElem?_range hj, e]
end Go.Proofs.YtfdnpchbbngpjaaGreat
namespace Go.Proofs.YtfdnpchbbngpjaaGreat
open Go.RowKit Go.Maps
theorem sectors_any (n : Nat) (hn : n < 256) (w : World) : Calls Tryz.prog 10 #[.int .u8 (n : Int)] w fun e w' => e = .returned (.int .i64 (((1 + n % 10 : Nat) : Int) + 2)) ∧ w = w' := by
  go_enter Tryz.func10, Tryz.ntmps10
  go_wp2
  go_ret
  exact ⟨by go_num, rfl⟩
section
variable {w0 w : World} {vb jb bb tb : Nat} {S : JS} {st : VS} {B : BS} {X : List (Nat × Obj)} {m c : Nat}
/-- on a device without a limit an operation returns what the definition says -/
theorem perform_calm (o : JO) (ho : o.ok) (h : Wk w0 w vb jb bb tb S false st B X) (hI : Inv st B m c) (hs : B.s = S) (hc : c + 2 ≤ 1048576) (hC : Calm st) :
    Calls Tryz.prog 13 #[.pointer (some ⟨vb, 0, none⟩), .pointer (some ⟨jb, 0, none⟩), .pointer (some ⟨bb, 0, none⟩), o.val] w fun e w' =>
      ∃ jb tb S st B, e = .returned (.tuple #[.pointer (some ⟨jb, 0, none⟩), .bool true]) ∧ Wk w0 w' vb jb bb tb S false st B X ∧ Inv st B m (c + 1) ∧ B.s = S ∧ Calm st := by
  refine (perform_any o ho h hI hs hc).mono ?_
  rintro e w' ⟨jb', tb', S', br, st', B', rfl, hW, hor⟩
  rcases hor with ⟨rfl, a, b, c⟩ | ⟨_, hf⟩
  · exact ⟨jb', tb', S', st', B', rfl, hW, a, b, c hC⟩
  · exact absurd hC hf.calm
/-- the cells of an operation of a slice from before -/
theorem op_cells {w0 w' : World} {v : Value} {l : List JO} (h : JOps w0 v l) (hb : Below w0.heap.size w0 w') {k : Nat} (hk : k < l.length) :
    ∃ b off cap, v = .slice (some ⟨b, off, none⟩) l.length cap ∧ l[k].ok ∧ w'.cell? ⟨b, off + k * 3, none⟩ = some (.int .u8 (l[k].kind : Int)) ∧ w'.cell? ⟨b, off + k * 3 + 1, none⟩ = some (.int .i16 l[k].num) ∧ w'.cell? ⟨b, off + k * 3 + 2, none⟩ = some (.int .u16 (l[k].data : Int)) := by
  obtain ⟨ao, cap, h1, h2, h3⟩ := h.below hb
  obtain ⟨b, off, e, hlt, hc⟩ := h3 (by omega)
  subst e
  obtain ⟨k1, k2, k3, k4⟩ := hc k hk
  exact ⟨b, off, cap, h1, k1, k2, k3, k4⟩
end
end Go.Proofs.YtfdnpchbbngpjaaGreat
