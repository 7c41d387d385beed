/- Two rows of ints of a call's own, side by side; plain facts on parsing. -/
import Derived.Test.YtdcdlmigagjbiaaDoorHrp
import Derived.Test.YtdcdlmigagjbiaaDoorHpr
import Derived.Deep.QuietTactic
namespace Go.Proofs.YtdcdlmigagjbiaaDoor
open Go.RowKit
theorem IntRow.weak {w : World} {B B' : Nat} {v : Value} {l : List Int} (h : IntRow w B v l) (hB : B' ≤ B) : IntRow w B' v l := by
  obtain ⟨h1, h2⟩ := h
  refine ⟨h1, ?_⟩
  rcases h2 with h2 | ⟨g, cap, cur, e, hg, r⟩
  · exact .inl h2
  · exact .inr ⟨g, cap, cur, e, Nat.le_trans hB hg, r⟩
theorem IntRow.base {w : World} {B : Nat} {v : Value} {l : List Int} (h : IntRow w B v l) : ∀ g, v.ownBlock = some g → B ≤ g := row_base h
theorem IntRow.lt {w : World} {B : Nat} {v : Value} {l : List Int} (h : IntRow w B v l) : ∀ g, v.ownBlock = some g → g < w.heap.size := by
  intro g hg
  obtain ⟨cs, fz, hh⟩ := row_cellsOf h hg
  exact (Array.getElem?_eq_some_iff.1 hh).1
theorem IntRow.nil (w : World) (B : Nat) : IntRow w B (.slice none 0 0) [] := World.ownsRow_nil _ _ _ _
/-- an element appended to a row, beside another row -/
theorem row_app {w w1 : World} {B : Nat} {v v' u : Value} {l m : List Int} {x : Int} {o : Obj} {n : Nat} (hu : IntRow w B u m) (hne : ∀ g, v.ownBlock = some g → u.ownBlock ≠ some g)
    (ho : w1.ownsRow B 3 1 v' n (l.map (Value.int .i64) ++ [.int .i64 x])) (hn : n = l.length + 1) (hg : (w.alloc o).grownBy w1 v.ownBlock) (hat : v'.ownBlock = v.ownBlock ∨ v'.ownBlock = some (w.alloc o).heap.size) :
    IntRow w1 B v' (l ++ [x]) ∧ IntRow w1 B u m ∧ (∀ g, v'.ownBlock = some g → u.ownBlock ≠ some g) ∧ Turn v.ownBlock.toList w w1 ∧ w.heap.size ≤ w1.heap.size := by
  subst hn
  have t : Turn v.ownBlock.toList w w1 := ((Turn.refl _ w).alloc o).trans ((Turn.refl v.ownBlock.toList _).grown hg (fun g e => .inl (by rw [e]; simp))) (fun i hi => .inl hi)
  refine ⟨?_, row_turn hu t (fun g hg' hm => hne g (by simpa using hm) hg'), fun g hg' e => ?_, t, t.size⟩
  · unfold IntRow
    rw [List.length_append, List.map_append]
    exact ho
  · rcases hat with h | h
    · exact hne g (by rw [← h]; exact hg') e
    · rw [h] at hg'
      have h1 := Option.some.inj hg'
      have h2 := hu.lt g e
      simp at h1
      omega

theorem IntRow.notin {w : World} {B q : Nat} {v : Value} {l : List Int} (h : IntRow w B v l) (hq : q < B) : q ∉ v.ownBlock.toList := fun hm => by
  have := h.base q (by simpa using hm)
  omega
theorem turn_row {V w w2 : World} {q : Nat} {v : Value} {l : List Int} (ht : Turn [q] V w) (h : IntRow w V.heap.size v l) (t : Turn v.ownBlock.toList w w2) : Turn [q] V w2 :=
  ht.trans t (fun i hi => .inr (h.base i (by simpa using hi)))
theorem Blk.store4 {w : World} {g : Nat} {t : TypeId} {a b c d : Value} (h : Blk w g t #[a, b, c, d]) (a' b' c' d' : Value) : Blk ((((w.setCell ⟨g, 0, none⟩ a').setCell ⟨g, 1, none⟩ b').setCell ⟨g, 2, none⟩ c').setCell ⟨g, 3, none⟩ d') g t #[a', b', c', d'] := by
  have := (((h.set_ 0 a').set_ 1 b').set_ 2 c').set_ 3 d'
  simpa using this
theorem below_store4 {w0 w : World} {B g : Nat} (h : Below B w0 w) (hg : B ≤ g) (a' b' c' d' : Value) : Below B w0 ((((w.setCell ⟨g, 0, none⟩ a').setCell ⟨g, 1, none⟩ b').setCell ⟨g, 2, none⟩ c').setCell ⟨g, 3, none⟩ d') := (((h.setCell hg a').setCell hg b').setCell hg c').setCell hg d'

theorem ints_pos {w : World} {ao : Option Addr} {cap : Nat} {L : List Int} (h : Ints w (.slice ao L.length cap) L) (hp : 0 < L.length) :
    ∃ b off, ao = some ⟨b, off, none⟩ ∧ b < w.heap.size ∧ (∀ j, j < L.length → w.cell? ⟨b, off + j, none⟩ = some (.int .i64 (L.getD j 0))) ∧ L.length ≤ cap ∧ cap ≤ maxLen := by
  rcases h.open with ⟨hz, _⟩ | ⟨_, b, off, c', hv', hlc, hcm, hblt, hcl⟩
  · rw [hz] at hp; cases hp
  · injection hv' with a1 _ a3
    subst a3
    exact ⟨b, off, a1, hblt, hcl, hlc, hcm⟩

theorem turn_store4 (w : World) (g : Nat) (a' b' c' d' : Value) : Turn [g] w ((((w.setCell ⟨g, 0, none⟩ a').setCell ⟨g, 1, none⟩ b').setCell ⟨g, 2, none⟩ c').setCell ⟨g, 3, none⟩ d') :=
  ((((Turn.refl [g] w).setCell (.inl (by simp)) a').setCell (.inl (by simp)) b').setCell (.inl (by simp)) c').setCell (.inl (by simp)) d'
/-- a piece of code that ends in one way -/
def oneEnd (A : Act) (W : World) : Exit → Act → World → Prop
  | .normal, a, w => a = A ∧ w = W
  | _, _, _ => False
theorem region_one {P : Program} {c : Code} {Q : Exit → Act → World → Prop} {a : Act} {w : World} {A : Act} {W : World} (h1 : c.wp P (oneEnd A W) a w) (h2 : Q .normal A W) : c.wp P Q a w :=
  Code.wp_mono (fun e a' w' h => by
    cases e <;> first | exact (h : False).elim | (obtain ⟨rfl, rfl⟩ := h; exact h2)) h1

/-! ### parsing, plain -/
theorem parseGo_mem : ∀ (l : List Int) (lv : Int) (x : Int), x ∈ (parseGo lv l).1 → x ∈ l
  | [], lv, x, h => by simp [parseGo] at h
  | c :: r, lv, x, h => by
    unfold parseGo at h
    split at h
    · exact List.mem_cons_of_mem _ (parseGo_mem r _ x h)
    · rcases List.mem_cons.1 h with rfl | h
      · exact List.mem_cons_self
      · exact List.mem_cons_of_mem _ (parseGo_mem r _ x h)
theorem parseGo_len : ∀ (l : List Int) (lv : Int), (parseGo lv l).1.length ≤ l.length ∧ (parseGo lv l).2.length = (parseGo lv l).1.length + 1
  | [], lv => by simp [parseGo]
  | c :: r, lv => by
    unfold parseGo
    split
    · have := parseGo_len r (c - 48); exact ⟨Nat.le_succ_of_le this.1, this.2⟩
    · have := parseGo_len r 0; simp; omega
theorem parseGo_dig {c lv : Int} {r : List Int} (h : 48 ≤ c) (h' : c ≤ 57) : parseGo lv (c :: r) = parseGo (c - 48) r := by
  show (if 48 ≤ c ∧ c ≤ 57 then _ else _) = _
  rw [if_pos ⟨h, h'⟩]
theorem parseGo_let {c lv : Int} {r : List Int} (h : ¬ (48 ≤ c ∧ c ≤ 57)) : parseGo lv (c :: r) = (c :: (parseGo 0 r).1, lv :: (parseGo 0 r).2) := by
  show (if 48 ≤ c ∧ c ≤ 57 then _ else _) = _
  rw [if_neg h]
theorem drop_at {l : List Int} {k : Nat} (h : k < l.length) : l.drop k = l.getD k 0 :: l.drop (k + 1) := by
  rw [List.drop_eq_getElem_cons h, List.getD_eq_getElem?_getD, List.getElem?_eq_getElem h]; rfl
theorem strip_mem {l : List Int} {x : Int} (h : x ∈ stripE (stripB l)) : x ∈ l := by
  have hB : ∀ y, y ∈ stripB l → y ∈ l := fun y hy => by
    unfold stripB at hy
    split at hy
    · exact List.mem_of_mem_tail hy
    · exact hy
  unfold stripE at h
  split at h
  · rw [List.dropLast_eq_take] at h
    exact hB _ (List.mem_of_mem_take h)
  · exact hB _ h
theorem strip_len (l : List Int) : (stripE (stripB l)).length ≤ l.length := by
  have h1 : (stripB l).length ≤ l.length := by unfold stripB; split <;> simp
  have h2 : (stripE (stripB l)).length ≤ (stripB l).length := by unfold stripE; split <;> simp
  omega
theorem okI_word (l : List UInt8) : okI (parseGo 0 (stripE (stripB (ptsI l)))).1 = true := by
  unfold okI
  rw [List.all_eq_true]
  intro x hx
  have h := okI_pts l
  unfold okI at h
  exact List.all_eq_true.1 h x (strip_mem (parseGo_mem _ _ _ hx))
theorem encI_le (l : List Int) : (encI l).length ≤ 4 * l.length := by
  have := encI_len l l.length
  rwa [List.take_length] at this
theorem hasB_iff {L : List Int} {x : Int} (hx : L.getD 0 0 = x) (h : 0 < L.length) : hasB L = decide (x = 46) := by
  cases L with
  | nil => cases h
  | cons c r =>
    obtain rfl : c = x := hx
    show (some c == some 46) = _
    by_cases e : c = 46 <;> simp [e]
theorem hasE_iff {L : List Int} {y : Int} (hy : L.getD (L.length - 1) 0 = y) (h : 0 < L.length) : hasE L = decide (y = 46) := by
  unfold hasE
  rw [List.getLast?_eq_getElem?]
  rw [List.getD_eq_getElem?_getD, List.getElem?_eq_getElem (by omega)] at hy
  rw [List.getElem?_eq_getElem (by omega)]
  have hy' : L[L.length - 1] = y := hy
  rw [hy']
  by_cases e : y = 46 <;> simp [e]
theorem tail_get (L : List Int) (j : Nat) : L.tail.getD j 0 = L.getD (j + 1) 0 := by cases L <;> rfl
theorem drop_get (L : List Int) (j : Nat) (h : j < L.dropLast.length) : L.dropLast.getD j 0 = L.getD j 0 := by
  rw [List.length_dropLast] at h
  rw [List.getD_eq_getElem?_getD, List.getD_eq_getElem?_getD, List.dropLast_eq_take, List.getElem?_take, if_pos h]
theorem strip_get0 (L : List Int) (j : Nat) : L.getD j 0 = L.getD (j + 0) 0 := rfl
theorem strip_get_t (L : List Int) (j : Nat) : L.tail.getD j 0 = L.getD (j + 1) 0 := tail_get L j
theorem strip_get_d (L : List Int) (j : Nat) (h : j < L.dropLast.length) : L.dropLast.getD j 0 = L.getD (j + 0) 0 := drop_get L j h
theorem strip_get_td (L : List Int) (j : Nat) (h : j < L.tail.dropLast.length) : L.tail.dropLast.getD j 0 = L.getD (j + 1) 0 := (drop_get _ j h).trans (tail_get L j)
section
variable {L : List Int} {x y : Int} (hx : L.getD 0 0 = x) (hy : L.getD (L.length - 1) 0 = y)
include hx
theorem stripB_t (h : 0 < L.length) (e : x = 46) : stripB L = L.tail ∧ hasB L = true := by
  have hb : hasB L = true := by rw [hasB_iff hx h]; simp [e]
  exact ⟨by unfold stripB; rw [if_pos hb], hb⟩
theorem stripB_f (h : 0 < L.length) (e : x ≠ 46) : stripB L = L ∧ hasB L = false := by
  have hb : hasB L = false := by rw [hasB_iff hx h]; simp [e]
  exact ⟨by unfold stripB; rw [if_neg (by rw [hb]; simp)], hb⟩
include hy
omit hx in
theorem hasE_tail (h : 1 < L.length) : hasE L.tail = decide (y = 46) := hasE_iff (by rw [tail_get, List.length_tail, show L.length - 1 - 1 + 1 = L.length - 1 from by omega]; exact hy) (by rw [List.length_tail]; omega)
theorem strip_bt (h : 1 < L.length) (e : x = 46) (e' : y = 46) : stripE (stripB L) = L.tail.dropLast ∧ hasB L = true ∧ hasE (stripB L) = true := by
  obtain ⟨h1, h2⟩ := stripB_t hx (by omega) e
  have h3 : hasE L.tail = true := by rw [hasE_tail hy h]; simp [e']
  rw [h1]
  exact ⟨by unfold stripE; rw [if_pos h3], h2, h3⟩
theorem strip_bf (h : 1 < L.length) (e : x = 46) (e' : ¬ y = 46) : stripE (stripB L) = L.tail ∧ hasB L = true ∧ hasE (stripB L) = false := by
  obtain ⟨h1, h2⟩ := stripB_t hx (by omega) e
  have h3 : hasE L.tail = false := by rw [hasE_tail hy h]; simp [e']
  rw [h1]
  exact ⟨by unfold stripE; rw [if_neg (by rw [h3]; simp)], h2, h3⟩
theorem strip_b0 (h : 0 < L.length) (e : x = 46) (e' : L.length = 1) : stripE (stripB L) = L.tail ∧ hasB L = true ∧ hasE (stripB L) = false := by
  have := hy
  obtain ⟨h1, h2⟩ := stripB_t hx h e
  have ht : L.tail = [] := List.eq_nil_of_length_eq_zero (by rw [List.length_tail]; omega)
  rw [h1, ht]
  exact ⟨rfl, h2, rfl⟩
theorem strip_nt (h : 0 < L.length) (e : ¬ x = 46) (e' : y = 46) : stripE (stripB L) = L.dropLast ∧ hasB L = false ∧ hasE (stripB L) = true := by
  obtain ⟨h1, h2⟩ := stripB_f hx h e
  have h3 : hasE L = true := by rw [hasE_iff hy h]; simp [e']
  rw [h1]
  exact ⟨by unfold stripE; rw [if_pos h3], h2, h3⟩
theorem strip_nf (h : 0 < L.length) (e : ¬ x = 46) (e' : ¬ y = 46) : stripE (stripB L) = L ∧ hasB L = false ∧ hasE (stripB L) = false := by
  obtain ⟨h1, h2⟩ := stripB_f hx h e
  have h3 : hasE L = false := by rw [hasE_iff hy h]; simp [e']
  rw [h1]
  exact ⟨by unfold stripE; rw [if_neg (by rw [h3]; simp)], h2, h3⟩
end
/-- what ParsePattern leaves -/
def ParsePost (s : List UInt8) (w : World) (e : Ending) (w' : World) : Prop :=
  ∃ pv, e = .returned (.tuple #[patV (parseP s).2 pv, .int .i64 ((parseP s).1 : Int)]) ∧ Below w.heap.size w w' ∧ IntRow w' w.heap.size pv (parseP s).2.levels
theorem parsePost {s : List UInt8} {w w' : World} {n : Nat} {P : Pat} {pv : Value} (h : parseP s = (n, P)) (hb : Below w.heap.size w w') (hv : IntRow w' w.heap.size pv P.levels) :
    ParsePost s w (.returned (.tuple #[patV P pv, .int .i64 (n : Int)])) w' := ⟨pv, by rw [h], hb, by rw [h]; exact hv⟩
def zeroPV : Value := .agg #[.string ⟨#[]⟩, .slice none 0 0, .bool false, .bool false]
theorem parsePost_no {s : List UInt8} {w w' : World} {n : Nat} (h : parseP s = (n, .zero)) (hb : Below w.heap.size w w') : ParsePost s w (.returned (.tuple #[zeroPV, .int .i64 (n : Int)])) w' := parsePost (pv := .slice none 0 0) h hb (IntRow.nil _ _)
theorem parseP_bad {s : List UInt8} (h : (U.bad s).isEmpty = false) : parseP s = (12, .zero) := by unfold parseP; rw [if_pos h]
theorem parseP_no {s : List UInt8} (h : (U.bad s).isEmpty = true) (h1 : printP (patOf (ptsI s)) ≠ (0, s)) : parseP s = (14, .zero) := by unfold parseP; rw [if_neg (by rw [h]; simp), if_neg h1]
theorem parseP_ok {s : List UInt8} (h : (U.bad s).isEmpty = true) (h1 : printP (patOf (ptsI s)) = (0, s)) : parseP s = (0, patOf (ptsI s)) := by unfold parseP; rw [if_neg (by rw [h]; simp), if_pos h1]
end Go.Proofs.YtdcdlmigagjbiaaDoor
/- exception walked. -/
namespace Go.Proofs.YtdcdlmigagjbiaaDoor
open Go.RowKit Go.Maps
/-- what exception leaves -/
def ExPost (t : List UInt8) (w : World) (e : Ending) (w' : World) : Prop :=
  ∃ pv, e = .returned (.tuple #[.string ⟨(exP t).1.toArray⟩, pv, .bool (exP t).2.2]) ∧ Below w.heap.size w w' ∧ IntRow w' w.heap.size pv (exP t).2.1
theorem exPost_no {t : List UInt8} {w w' : World} (h : exP t = ([], [], false)) (hb : Below w.heap.size w w') : ExPost t w (.returned (.tuple #[.string ⟨#[]⟩, .slice none 0 0, .bool false])) w' :=
  ⟨.slice none 0 0, by rw [h], hb, by rw [h]; exact IntRow.nil _ _⟩
theorem exPost_yes {t : List UInt8} {w w' : World} {a : List UInt8} {l : List Int} {b : Bool} {pv : Value} (h : exP t = (a, l, b)) (hb : Below w.heap.size w w') (hv : IntRow w' w.heap.size pv l) : ExPost t w (.returned (.tuple #[.string ⟨a.toArray⟩, pv, .bool b])) w' :=
  ⟨pv, by rw [h], hb, by rw [h]; exact hv⟩
theorem join_flat : ∀ (xs : List (List UInt8)), Lib.join xs [] = xs.flatten
  | [] => rfl
  | [x] => by simp [Lib.join, List.intercalate]
  | x :: y :: r => by
    have ih := join_flat (y :: r)
    simp only [Lib.join, List.intercalate] at ih ⊢
    simpa using ih
theorem ba_mk (x : ByteArray) : (⟨x.data.toList.toArray⟩ : ByteArray) = x := rfl
theorem sp_len_le {t x : List UInt8} (h : x ∈ sp 45 t) : x.length ≤ t.length := by
  suffices ∀ (L : List (List UInt8)), x ∈ L → x.length ≤ (jn (45 : UInt8) L).length by
    have := this _ h
    rwa [jn_sp] at this
  intro L hL
  cases L with
  | nil => cases hL
  | cons y r =>
    show _ ≤ (y ++ (r.map (fun z => (45 : UInt8) :: z)).flatten).length
    rw [List.length_append]
    rcases List.mem_cons.1 hL with rfl | hL
    · omega
    · have : x.length ≤ ((r.map (fun z => (45 : UInt8) :: z)).flatten).length := by
        induction r with
        | nil => cases hL
        | cons z r ih =>
          simp only [List.map_cons, List.flatten_cons, List.length_append, List.length_cons]
          rcases List.mem_cons.1 hL with rfl | hL
          · omega
          · have := ih (List.mem_cons_of_mem _ hL) hL
            omega
      omega
theorem sp_count (t : List UInt8) : (sp 45 t).length ≤ t.length + 1 := by
  induction t with
  | nil => simp [sp]
  | cons x r ih =>
    by_cases h : x = 45
    · subst h; rw [sp_hit]; simp; omega
    · rw [sp_go r h]
      obtain ⟨a, b, e⟩ := sp_cons (45 : UInt8) r
      rw [e] at ih ⊢
      simp at ih ⊢
      omega
theorem sp_flat_le (t : List UInt8) : (sp 45 t).flatten.length ≤ t.length := by
  induction t with
  | nil => simp [sp]
  | cons x r ih =>
    by_cases h : x = 45
    · subst h; rw [sp_hit]; simp at ih ⊢; omega
    · rw [sp_go r h]
      obtain ⟨a, b, e⟩ := sp_cons (45 : UInt8) r
      rw [e] at ih ⊢
      simp [hd_cons] at ih ⊢
      omega
/-- the pieces of a byte list -/
def pcs (t : List UInt8) : List (List UInt8) := sp 45 t
theorem pieces_get (t : List UInt8) (k : Nat) (h : k < (sp 45 t).length) : ∃ x, (piecesB ⟨t.toArray⟩)[k]? = some x ∧ x = ⟨((sp 45 t).getD k []).toArray⟩ ∧ (sp 45 t).getD k [] ∈ sp 45 t := by
  have hp := pieces_sp ⟨t.toArray⟩
  rw [ba_data] at hp
  have hl : (piecesB ⟨t.toArray⟩).length = (sp 45 t).length := by rw [← hp]; simp
  refine ⟨(piecesB ⟨t.toArray⟩)[k], List.getElem?_eq_getElem (by omega), ?_, ?_⟩
  · have : ((piecesB ⟨t.toArray⟩).map (·.data.toList)).getD k [] = (sp 45 t).getD k [] := by rw [hp]
    rw [List.getD_eq_getElem?_getD, List.getElem?_map, List.getElem?_eq_getElem (by omega)] at this
    rw [← this]
    exact (ba_mk _).symm
  · rw [List.getD_eq_getElem?_getD, List.getElem?_eq_getElem h]
    exact List.getElem_mem h
set_option maxRecDepth 100000 in
set_option maxHeartbeats 4000000 in
theorem exception_any (t : List UInt8) (ht : t.length ≤ 100000000) (w : World) :
    Calls Tryd.prog 47 #[.string ⟨t.toArray⟩] w (ExPost t w) := by
  obtain ⟨i0, hi, hz0, hz1, hz2⟩ := info_parts int_info
  obtain ⟨X, hX⟩ : ∃ X, sp 45 t = X := ⟨_, rfl⟩
  have hp := pieces_sp ⟨t.toArray⟩
  rw [ba_data, hX] at hp
  have hXl : (piecesB ⟨t.toArray⟩).length = X.length := by rw [← hp]; simp
  have hXc : X.length ≤ t.length + 1 := by rw [← hX]; exact sp_count t
  have hXm : ∀ x, x ∈ X → x.length ≤ t.length := fun x hx => sp_len_le (by rw [hX]; exact hx)
  have HXM := Lib.hid hXm
  have HFL := Lib.hid (show X.flatten.length ≤ t.length by rw [← hX]; exact sp_flat_le t)
  have HNO := Lib.hid (fun (x : List UInt8) (hx : x ∈ X) => ex_no (t := t) (x := x) (by rw [hX]; exact hx))
  have HYES := Lib.hid (fun (h : ∀ x, x ∈ X → letsP x = true ∧ ptsI x ≠ []) => ex_yes (t := t) (by rw [hX]; exact h))
  rw [hX] at HYES
  have HPG := Lib.hid (fun k hk => pieces_get t k hk)
  rw [hX] at HPG
  have HSP := Lib.hid (fun w => split_any ⟨t.toArray⟩ w (by rw [ba_size]; omega))
  rw [hXl] at HSP
  obtain ⟨CS, hCS⟩ : ∃ CS, ((piecesB ⟨t.toArray⟩).map Value.string).toArray = CS := ⟨_, rfl⟩
  rw [hCS] at HSP
  have hcg : ∀ k, k < X.length → CS[k]? = some (.string ⟨(X.getD k []).toArray⟩) := fun k hk => by
    obtain ⟨x, h1, h2, _⟩ := HPG.out k hk
    rw [← hCS, List.getElem?_toArray, List.getElem?_map, h1, h2]
    rfl
  have hcj : ∀ (j : Nat) x, (piecesB ⟨t.toArray⟩)[j]? = some x → CS[j]? = some (.string x) := fun j x hj => by
    rw [← hCS, List.getElem?_toArray, List.getElem?_map, hj]
    rfl
  have HCG := Lib.hid hcg
  have HCJ := Lib.hid hcj
  have HXP := Lib.hid (And.intro hXl hp)
  clear hX hp hXl hXm hCS hcg hcj
  go_enter Tryd.func47, Tryd.ntmps47
  go_wp2_with (go_at_call 56; refine (HSP.out _).mono ?_; rintro e w1 ⟨rfl, rfl⟩)
  have HB1 := Lib.hid (Blk.new w 9 CS)
  have hba := Lib.hid ((Below.refl w.heap.size w).alloc (Nat.le_refl _) (.cells CS 9))
  have hs1 : (w.alloc (.cells CS 9)).heap.size = w.heap.size + 1 := by simp
  obtain ⟨W1, hW1⟩ : ∃ W1, w.alloc (.cells CS 9) = W1 := ⟨_, rfl⟩
  simp only [hW1]
  rw [hW1] at HB1 hba hs1
  clear hW1
  go_loopw [3, 6, 15] (fun pvv nv i wr => ∃ (k n : Nat) (ps : List Int), k ≤ X.length ∧ i = .int .i64 (k : Int) ∧ nv = .int .i64 (n : Int) ∧ n ≤ k * 100000000 ∧ Hid (n = ((X.take k).map ptsI).flatten.length) ∧ Hid (ps = (cumP 0 ((X.take k).map ptsI)).tail) ∧ Hid (IntRow wr W1.heap.size pvv ps) ∧ ps.length ≤ k ∧ Hid (Below W1.heap.size W1 wr) ∧ Hid (∀ x, x ∈ X.take k → letsP x = true ∧ ptsI x ≠ [])) (fun _ _ i _ => X.length - (intOf i).toNat)
  case atStart => exact ⟨0, 0, [], Nat.zero_le _, rfl, rfl, Nat.zero_le _, Lib.hid rfl, Lib.hid rfl, Lib.hid (IntRow.nil _ _), Nat.zero_le _, Lib.hid (Below.refl _ _), Lib.hid (fun x hx => by simp at hx)⟩
  case round =>
    obtain ⟨k, n, ps, hk, rfl, rfl, hn, HN, HPS, HR, hpl, HBe, HAL⟩ := hrel
    have hrs := HBe.out.size
    by_cases hlt : k < X.length
    · have hcell := (HBe.out.cell (p := ⟨w.heap.size, k, none⟩) (by show w.heap.size < _; omega)).trans ((HB1.out.cell k).trans (HCG.out k hlt))
      have hxm : X.getD k [] ∈ X := by rw [List.getD_eq_getElem?_getD, List.getElem?_eq_getElem hlt]; exact List.getElem_mem hlt
      have htk : X.take (k + 1) = X.take k ++ [X.getD k []] := by rw [List.getD_eq_getElem?_getD, List.getElem?_eq_getElem hlt, List.take_add_one, List.getElem?_eq_getElem hlt]; rfl
      obtain ⟨x, hx⟩ : ∃ x, X.getD k [] = x := ⟨_, rfl⟩
      rw [hx] at hcell hxm htk
      have HTK := Lib.hid htk
      have HXM2 := Lib.hid hxm
      have hxl := HXM.out x hxm
      clear hx hxm htk
      cases hle : letsP x with
      | false =>
        have HE := Lib.hid (HNO.out x HXM2.out (.inl hle))
        have HL := Lib.hid hle
        clear hle
        go_wp2_with (go_at_call 39; refine (lets_no HL.out (by omega) _).mono ?_; rintro e w2 ⟨rfl, hb2⟩)
        refine bodyPost_ret (v := .tuple #[.string ⟨#[]⟩, .slice none 0 0, .bool false]) (by simp [results, Tryd.f47, go_sem]) rfl (exPost_no HE.out (hba.out.trans ((HBe.out.mono (by omega)).trans (hb2.mono (by omega)))))
      | true =>
        have HL := Lib.hid hle
        clear hle
        have hplx : (ptsI x).length ≤ x.length := pts_len0 ⟨x.toArray⟩
        by_cases h0 : (ptsI x).length = 0
        · have HE := Lib.hid (HNO.out x HXM2.out (.inr (List.eq_nil_of_length_eq_zero h0)))
          have d0 : ((ptsI x).length = 0) = True := by simp [h0]
          go_wp2_with (go_at_call 39; refine (lets_yes HL.out (by omega) _).mono ?_; rintro e w2 ⟨ao, cap, rfl, hb2, hr2⟩)
          refine bodyPost_ret (v := .tuple #[.string ⟨#[]⟩, .slice none 0 0, .bool false]) (by simp [results, Tryd.f47, go_sem]) rfl (exPost_no HE.out (hba.out.trans ((HBe.out.mono (by omega)).trans (hb2.mono (by omega)))))
        · have d0 : ((ptsI x).length = 0) = False := by simp [h0]
          have HAL2 := Lib.hid (show ∀ y, y ∈ X.take (k + 1) → letsP y = true ∧ ptsI y ≠ [] by
            intro y hy
            rw [HTK.out] at hy
            rcases List.mem_append.1 hy with hy | hy
            · exact HAL.out y hy
            · obtain rfl : y = x := by simpa using hy
              exact ⟨HL.out, fun e => h0 (by rw [e]; rfl)⟩)
          have HN2 := Lib.hid (show n + (ptsI x).length = ((X.take (k + 1)).map ptsI).flatten.length by
            rw [HTK.out, HN.out]; simp)
          have HPS2 := Lib.hid (show ps ++ (if k = 0 then [] else [(n : Int)]) = (cumP 0 ((X.take (k + 1)).map ptsI)).tail by
            rw [HTK.out, List.map_append, List.map_cons, List.map_nil, cumP_tail, ← HPS.out, ← HN.out]
            congr 1
            by_cases hk0 : k = 0
            · subst hk0; simp
            · rw [if_neg hk0, if_neg]
              intro e
              have := congrArg List.length e
              simp only [List.length_map, List.length_take, List.length_nil] at this
              omega)
          have hmul : (k + 1) * 100000000 = k * 100000000 + 100000000 := by omega
          by_cases hk0 : k = 0
          · have dk : decide (0 < k) = false := by simp [hk0]
            have HK0 := Lib.hid hk0
            clear hk0
            go_wp2_with (go_at_call 39; refine (lets_yes HL.out (by omega) _).mono ?_; rintro e w2 ⟨ao, cap, rfl, hb2, hr2⟩)
            have HPS3 := Lib.hid (show ps = (cumP 0 ((X.take (k + 1)).map ptsI)).tail by rw [← HPS2.out, if_pos HK0.out, List.append_nil])
            exact ⟨⟨k + 1, n + (ptsI x).length, ps, hlt, by go_num, by go_num, by omega, HN2, HPS3, Lib.hid (row_turn HR.out (Turn.ofBelow (F := []) hb2 (Nat.le_refl _)) (fun _ _ => by simp)), by omega, Lib.hid (HBe.out.trans (hb2.mono hrs)), HAL2⟩, by simp [intOf]; omega⟩
          · have dk : decide (0 < k) = true := by simp; omega
            go_wp2_with (first
              | (go_at_call 39; refine (lets_yes HL.out (by omega) _).mono ?_; rintro e w2 ⟨ao, cap, rfl, hb2, hr2⟩; have R2 := Lib.hid (row_turn HR.out (Turn.ofBelow (F := []) hb2 (Nat.le_refl _)) (fun _ _ => by simp)); have hs2 := hb2.size)
              | (at_builtin; refine wpList_append_own_at _ rfl _ _ 26 rfl W1.heap.size 3 i0 (.int .i64 0) 1 8 Tryd.underlying26 hi hz0 hz1 hz2 rfl (by decide) u3 ps.length (ps.map (Value.int .i64)) rfl (World.ownsRow.alloc R2.out _) ⟨w2.heap.size, 0, none⟩ 1 1 [.int .i64 (n : Int)] rfl rfl (cell_one_new _ _ _) (by intro u hu; simp at hu; subst hu; rfl) (by unfold maxLen; omega) (by omega) (by simp; omega) ?_; intro pv3 w3 hown hg _ hat; obtain ⟨s1, _, _, s4, s5⟩ := row_app (u := .slice none 0 0) (m := []) (IntRow.nil _ W1.heap.size) (fun g _ => by simp [Value.ownBlock]) hown rfl hg hat; have S1 := Lib.hid s1; have S4 := Lib.hid (s4.toBelow (B := W1.heap.size) (fun i hi => row_base R2.out i (by simpa using hi)) (by omega)); clear s1 s4 hown hg hat))
            have HPS3 := Lib.hid (show ps ++ [(n : Int)] = (cumP 0 ((X.take (k + 1)).map ptsI)).tail by rw [← HPS2.out, if_neg (by omega)])
            exact ⟨⟨k + 1, n + (ptsI x).length, ps ++ [(n : Int)], hlt, by go_num, by go_num, by omega, HN2, HPS3, S1, by simp; omega, Lib.hid (HBe.out.trans ((hb2.mono hrs).trans S4.out)), HAL2⟩, by simp [intOf]; omega⟩
    · have hke : k = X.length := by omega
      have hall : X.take k = X := by rw [hke]; exact List.take_length
      obtain ⟨hE1, hE2⟩ := HYES.out (by have := HAL.out; rwa [hall] at this)
      have hn2 : n = (X.map ptsI).flatten.length := by have := HN.out; rwa [hall] at this
      have hps2 : ps = (cumP 0 (X.map ptsI)).tail := by have := HPS.out; rwa [hall] at this
      have HE := Lib.hid (show exP t = (X.flatten, ps, decide (n ≤ 64)) by rw [hE1, exC, hE2, hps2, hn2])
      have HJ := Lib.hid (show Lib.join ((piecesB ⟨t.toArray⟩).map (·.data.toList)) (⟨#[]⟩ : ByteArray).data.toList = X.flatten by rw [HXP.out.2]; exact join_flat X)
      have d7 : decide (k < X.length) = false := by simp [hlt]
      have hfl := HFL.out
      clear hE1 hE2 hn2 hps2 hall
      have hjc := fun (j : Nat) (x : ByteArray) (hj : (piecesB ⟨t.toArray⟩)[j]? = some x) => (show wr.cell? ⟨w.heap.size, 0 + j, none⟩ = some (.string x) by
        rw [Nat.zero_add]
        exact (HBe.out.cell (p := ⟨w.heap.size, j, none⟩) (by show w.heap.size < _; omega)).trans ((HB1.out.cell j).trans (HCJ.out j x hj)))
      have HJN := Lib.hid (Tryd.strings_Join w.heap.size 0 X.length (piecesB ⟨t.toArray⟩) ⟨#[]⟩ wr hjc (by omega) (by rw [HXP.out.1]; omega) (by rw [HXP.out.1]; exact Nat.le_refl _) (by rw [HJ.out]; omega))
      rw [HJ.out, HXP.out.1] at HJN
      clear hjc
      go_wp2_with (go_at_call 57; refine (HJN.out).mono ?_; rintro e w2 ⟨rfl, hb2⟩)
      refine bodyPost_ret (v := .tuple #[.string ⟨X.flatten.toArray⟩, u3, .bool (decide (n ≤ 64))]) (by simp [results, Tryd.f47, go_sem]; omega) rfl (exPost_yes HE.out (hba.out.trans ((HBe.out.mono (by omega)).trans (hb2.mono (by omega)))) (IntRow.weak (row_turn HR.out (Turn.ofBelow (F := []) hb2 (Nat.le_refl _)) (fun _ _ => by simp)) (by omega)))
end Go.Proofs.YtdcdlmigagjbiaaDoor
