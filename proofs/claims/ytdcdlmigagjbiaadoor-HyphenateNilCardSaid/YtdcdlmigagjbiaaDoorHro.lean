/- Two rows of ints of a call's own, side by side; plain facts on parsing. -/
import Derived.Test.YtdcdlmigagjbiaaDoorHrp
import Derived.Test.YtdcdlmigagjbiaaDoorHpr
namespace Go.Proofs.YtdcdlmigagjbiaaDoor
open Go.RowKit
theorem IntRow.weak {w : World} {B B' : Nat} {v : Value} {l : List Int} (h : IntRow w B v l) (hB : B' ≤ B) : IntRow w B' v l := by
  obtain ⟨h1, h2⟩ := h
  refine ⟨h1, ?_⟩
  rcases h2 with h2 | ⟨g, cap, cur, e, hg, r⟩
  · exact .inl h2
  · exact .inr ⟨g, cap, cur, e, Nat.le_trans hB hg, r⟩
theorem IntRow.base {w : World} {B : Nat} {v : Value} {l : List Int} (h : IntRow w B v l) : ∀ g, v.ownBlock = some g → B ≤ g := row_base h
theorem IntRow.lt {w : World} {B : Nat} {v : Value} {l : List Int} (h : IntRow w B v l) : ∀ g, v.ownBlock = some g → g < w.heap.size := by
  intro g hg
  obtain ⟨cs, fz, hh⟩ := row_cellsOf h hg
  exact (Array.getElem?_eq_some_iff.1 hh).1
theorem IntRow.nil (w : World) (B : Nat) : IntRow w B (.slice none 0 0) [] := World.ownsRow_nil _ _ _ _
/-- an element appended to a row, beside another row -/
theorem row_app {w w1 : World} {B : Nat} {v v' u : Value} {l m : List Int} {x : Int} {o : Obj} {n : Nat} (hu : IntRow w B u m) (hne : ∀ g, v.ownBlock = some g → u.ownBlock ≠ some g)
    (ho : w1.ownsRow B 3 1 v' n (l.map (Value.int .i64) ++ [.int .i64 x])) (hn : n = l.length + 1) (hg : (w.alloc o).grownBy w1 v.ownBlock) (hat : v'.ownBlock = v.ownBlock ∨ v'.ownBlock = some (w.alloc o).heap.size) :
    IntRow w1 B v' (l ++ [x]) ∧ IntRow w1 B u m ∧ (∀ g, v'.ownBlock = some g → u.ownBlock ≠ some g) ∧ Turn v.ownBlock.toList w w1 ∧ w.heap.size ≤ w1.heap.size := by
  subst hn
  have t : Turn v.ownBlock.toList w w1 := ((Turn.refl _ w).alloc o).trans ((Turn.refl v.ownBlock.toList _).grown hg (fun g e => .inl (by rw [e]; simp))) (fun i hi => .inl hi)
  refine ⟨?_, row_turn hu t (fun g hg' hm => hne g (by simpa using hm) hg'), fun g hg' e => ?_, t, t.size⟩
  · unfold IntRow
    rw [List.length_append, List.map_append]
    exact ho
  · rcases hat with h | h
    · exact hne g (by rw [← h]; exact hg') e
    · rw [h] at hg'
      have h1 := Option.some.inj hg'
      have h2 := hu.lt g e
      simp at h1
      omega

theorem IntRow.notin {w : World} {B q : Nat} {v : Value} {l : List Int} (h : IntRow w B v l) (hq : q < B) : q ∉ v.ownBlock.toList := fun hm => by
  have := h.base q (by simpa using hm)
  omega
theorem turn_row {V w w2 : World} {q : Nat} {v : Value} {l : List Int} (ht : Turn [q] V w) (h : IntRow w V.heap.size v l) (t : Turn v.ownBlock.toList w w2) : Turn [q] V w2 :=
  ht.trans t (fun i hi => .inr (h.base i (by simpa using hi)))
theorem Blk.store4 {w : World} {g : Nat} {t : TypeId} {a b c d : Value} (h : Blk w g t #[a, b, c, d]) (a' b' c' d' : Value) : Blk ((((w.setCell ⟨g, 0, none⟩ a').setCell ⟨g, 1, none⟩ b').setCell ⟨g, 2, none⟩ c').setCell ⟨g, 3, none⟩ d') g t #[a', b', c', d'] := by
  have := (((h.set_ 0 a').set_ 1 b').set_ 2 c').set_ 3 d'
  simpa using this
theorem below_store4 {w0 w : World} {B g : Nat} (h : Below B w0 w) (hg : B ≤ g) (a' b' c' d' : Value) : Below B w0 ((((w.setCell ⟨g, 0, none⟩ a').setCell ⟨g, 1, none⟩ b').setCell ⟨g, 2, none⟩ c').setCell ⟨g, 3, none⟩ d') := (((h.setCell hg a').setCell hg b').setCell hg c').setCell hg d'

theorem ints_pos {w : World} {ao : Option Addr} {cap : Nat} {L : List Int} (h : Ints w (.slice ao L.length cap) L) (hp : 0 < L.length) :
    ∃ b off, ao = some ⟨b, off, none⟩ ∧ b < w.heap.size ∧ (∀ j, j < L.length → w.cell? ⟨b, off + j, none⟩ = some (.int .i64 (L.getD j 0))) ∧ L.length ≤ cap ∧ cap ≤ maxLen := by
  rcases h.open with ⟨hz, _⟩ | ⟨_, b, off, c', hv', hlc, hcm, hblt, hcl⟩
  · rw [hz] at hp; cases hp
  · injection hv' with a1 _ a3
    subst a3
    exact ⟨b, off, a1, hblt, hcl, hlc, hcm⟩

theorem turn_store4 (w : World) (g : Nat) (a' b' c' d' : Value) : Turn [g] w ((((w.setCell ⟨g, 0, none⟩ a').setCell ⟨g, 1, none⟩ b').setCell ⟨g, 2, none⟩ c').setCell ⟨g, 3, none⟩ d') :=
  ((((Turn.refl [g] w).setCell (.inl (by simp)) a').setCell (.inl (by simp)) b').setCell (.inl (by simp)) c').setCell (.inl (by simp)) d'
/-- a piece of code that ends in one way -/
def oneEnd (A : Act) (W : World) : Exit → Act → World → Prop
  | .normal, a, w => a = A ∧ w = W
  | _, _, _ => False
theorem region_one {P : Program} {c : Code} {Q : Exit → Act → World → Prop} {a : Act} {w : World} {A : Act} {W : World} (h1 : c.wp P (oneEnd A W) a w) (h2 : Q .normal A W) : c.wp P Q a w :=
  Code.wp_mono (fun e a' w' h => by
    cases e <;> first | exact (h : False).elim | (obtain ⟨rfl, rfl⟩ := h; exact h2)) h1

/-! ### parsing, plain -/
theorem parseGo_mem : ∀ (l : List Int) (lv : Int) (x : Int), x ∈ (parseGo lv l).1 → x ∈ l
  | [], lv, x, h => by simp [parseGo] at h
  | c :: r, lv, x, h => by
    unfold parseGo at h
    split at h
    · exact List.mem_cons_of_mem _ (parseGo_mem r _ x h)
    · rcases List.mem_cons.1 h with rfl | h
      · exact List.mem_cons_self
      · exact List.mem_cons_of_mem _ (parseGo_mem r _ x h)
theorem parseGo_len : ∀ (l : List Int) (lv : Int), (parseGo lv l).1.length ≤ l.length ∧ (parseGo lv l).2.length = (parseGo lv l).1.length + 1
  | [], lv => by simp [parseGo]
  | c :: r, lv => by
    unfold parseGo
    split
    · have := parseGo_len r (c - 48); exact ⟨Nat.le_succ_of_le this.1, this.2⟩
    · have := parseGo_len r 0; simp; omega
theorem parseGo_dig {c lv : Int} {r : List Int} (h : 48 ≤ c) (h' : c ≤ 57) : parseGo lv (c :: r) = parseGo (c - 48) r := by
  show (if 48 ≤ c ∧ c ≤ 57 then _ else _) = _
  rw [if_pos ⟨h, h'⟩]
theorem parseGo_let {c lv : Int} {r : List Int} (h : ¬ (48 ≤ c ∧ c ≤ 57)) : parseGo lv (c :: r) = (c :: (parseGo 0 r).1, lv :: (parseGo 0 r).2) := by
  show (if 48 ≤ c ∧ c ≤ 57 then _ else _) = _
  rw [if_neg h]
theorem drop_at {l : List Int} {k : Nat} (h : k < l.length) : l.drop k = l.getD k 0 :: l.drop (k + 1) := by
  rw [List.drop_eq_getElem_cons h, List.getD_eq_getElem?_getD, List.getElem?_eq_getElem h]; rfl
theorem strip_mem {l : List Int} {x : Int} (h : x ∈ stripE (stripB l)) : x ∈ l := by
  have hB : ∀ y, y ∈ stripB l → y ∈ l := fun y hy => by
    unfold stripB at hy
    split at hy
    · exact List.mem_of_mem_tail hy
    · exact hy
  unfold stripE at h
  split at h
  · rw [List.dropLast_eq_take] at h
    exact hB _ (List.mem_of_mem_take h)
  · exact hB _ h
theorem strip_len (l : List Int) : (stripE (stripB l)).length ≤ l.length := by
  have h1 : (stripB l).length ≤ l.length := by unfold stripB; split <;> simp
  have h2 : (stripE (stripB l)).length ≤ (stripB l).length := by unfold stripE; split <;> simp
  omega
theorem okI_word (l : List UInt8) : okI (parseGo 0 (stripE (stripB (ptsI l)))).1 = true := by
  unfold okI
  rw [List.all_eq_true]
  intro x hx
  have h := okI_pts l
  unfold okI at h
  exact List.all_eq_true.1 h x (strip_mem (parseGo_mem _ _ _ hx))
theorem encI_le (l : List Int) : (encI l).length ≤ 4 * l.length := by
  have := encI_len l l.length
  rwa [List.take_length] at this
theorem hasB_iff {L : List Int} {x : Int} (hx : L.getD 0 0 = x) (h : 0 < L.length) : hasB L = decide (x = 46) := by
  cases L with
  | nil => cases h
  | cons c r =>
    obtain rfl : c = x := hx
    show (some c == some 46) = _
    by_cases e : c = 46 <;> simp [e]
theorem hasE_iff {L : List Int} {y : Int} (hy : L.getD (L.length - 1) 0 = y) (h : 0 < L.length) : hasE L = decide (y = 46) := by
  unfold hasE
  rw [List.getLast?_eq_getElem?]
  rw [List.getD_eq_getElem?_getD, List.getElem?_eq_getElem (by omega)] at hy
  rw [List.getElem?_eq_getElem (by omega)]
  have hy' : L[L.length - 1] = y := hy
  rw [hy']
  by_cases e : y = 46 <;> simp [e]
theorem tail_get (L : List Int) (j : Nat) : L.tail.getD j 0 = L.getD (j + 1) 0 := by cases L <;> rfl
theorem drop_get (L : List Int) (j : Nat) (h : j < L.dropLast.length) : L.dropLast.getD j 0 = L.getD j 0 := by
  rw [List.length_dropLast] at h
  rw [List.getD_eq_getElem?_getD, List.getD_eq_getElem?_getD, List.dropLast_eq_take, List.getElem?_take, if_pos h]
theorem strip_get0 (L : List Int) (j : Nat) : L.getD j 0 = L.getD (j + 0) 0 := rfl
theorem strip_get_t (L : List Int) (j : Nat) : L.tail.getD j 0 = L.getD (j + 1) 0 := tail_get L j
theorem strip_get_d (L : List Int) (j : Nat) (h : j < L.dropLast.length) : L.dropLast.getD j 0 = L.getD (j + 0) 0 := drop_get L j h
theorem strip_get_td (L : List Int) (j : Nat) (h : j < L.tail.dropLast.length) : L.tail.dropLast.getD j 0 = L.getD (j + 1) 0 := (drop_get _ j h).trans (tail_get L j)
section
variable {L : List Int} {x y : Int} (hx : L.getD 0 0 = x) (hy : L.getD (L.length - 1) 0 = y)
include hx
theorem stripB_t (h : 0 < L.length) (e : x = 46) : stripB L = L.tail ∧ hasB L = true := by
  have hb : hasB L = true := by rw [hasB_iff hx h]; simp [e]
  exact ⟨by unfold stripB; rw [if_pos hb], hb⟩
theorem stripB_f (h : 0 < L.length) (e : x ≠ 46) : stripB L = L ∧ hasB L = false := by
  have hb : hasB L = false := by rw [hasB_iff hx h]; simp [e]
  exact ⟨by unfold stripB; rw [if_neg (by rw [hb]; simp)], hb⟩
include hy
omit hx in
theorem hasE_tail (h : 1 < L.length) : hasE L.tail = decide (y = 46) := hasE_iff (by rw [tail_get, List.length_tail, show L.length - 1 - 1 + 1 = L.length - 1 from by omega]; exact hy) (by rw [List.length_tail]; omega)
theorem strip_bt (h : 1 < L.length) (e : x = 46) (e' : y = 46) : stripE (stripB L) = L.tail.dropLast ∧ hasB L = true ∧ hasE (stripB L) = true := by
  obtain ⟨h1, h2⟩ := stripB_t hx (by omega) e
  have h3 : hasE L.tail = true := by rw [hasE_tail hy h]; simp [e']
  rw [h1]
  exact ⟨by unfold stripE; rw [if_pos h3], h2, h3⟩
theorem strip_bf (h : 1 < L.length) (e : x = 46) (e' : ¬ y = 46) : stripE (stripB L) = L.tail ∧ hasB L = true ∧ hasE (stripB L) = false := by
  obtain ⟨h1, h2⟩ := stripB_t hx (by omega) e
  have h3 : hasE L.tail = false := by rw [hasE_tail hy h]; simp [e']
  rw [h1]
  exact ⟨by unfold stripE; rw [if_neg (by rw [h3]; simp)], h2, h3⟩
theorem strip_b0 (h : 0 < L.length) (e : x = 46) (e' : L.length = 1) : stripE (stripB L) = L.tail ∧ hasB L = true ∧ hasE (stripB L) = false := by
  have := hy
  obtain ⟨h1, h2⟩ := stripB_t hx h e
  have ht : L.tail = [] := List.eq_nil_of_length_eq_zero (by rw [List.length_tail]; omega)
  rw [h1, ht]
  exact ⟨rfl, h2, rfl⟩
theorem strip_nt (h : 0 < L.length) (e : ¬ x = 46) (e' : y = 46) : stripE (stripB L) = L.dropLast ∧ hasB L = false ∧ hasE (stripB L) = true := by
  obtain ⟨h1, h2⟩ := stripB_f hx h e
  have h3 : hasE L = true := by rw [hasE_iff hy h]; simp [e']
  rw [h1]
  exact ⟨by unfold stripE; rw [if_pos h3], h2, h3⟩
theorem strip_nf (h : 0 < L.length) (e : ¬ x = 46) (e' : ¬ y = 46) : stripE (stripB L) = L ∧ hasB L = false ∧ hasE (stripB L) = false := by
  obtain ⟨h1, h2⟩ := stripB_f hx h e
  have h3 : hasE L = false := by rw [hasE_iff hy h]; simp [e']
  rw [h1]
  exact ⟨by unfold stripE; rw [if_neg (by rw [h3]; simp)], h2, h3⟩
end
/-- what ParsePattern leaves -/
def ParsePost (s : List UInt8) (w : World) (e : Ending) (w' : World) : Prop :=
  ∃ pv, e = .returned (.tuple #[patV (parseP s).2 pv, .int .i64 ((parseP s).1 : Int)]) ∧ Below w.heap.size w w' ∧ IntRow w' w.heap.size pv (parseP s).2.levels
theorem parsePost {s : List UInt8} {w w' : World} {n : Nat} {P : Pat} {pv : Value} (h : parseP s = (n, P)) (hb : Below w.heap.size w w') (hv : IntRow w' w.heap.size pv P.levels) :
    ParsePost s w (.returned (.tuple #[patV P pv, .int .i64 (n : Int)])) w' := ⟨pv, by rw [h], hb, by rw [h]; exact hv⟩
def zeroPV : Value := .agg #[.string ⟨#[]⟩, .slice none 0 0, .bool false, .bool false]
theorem parsePost_no {s : List UInt8} {w w' : World} {n : Nat} (h : parseP s = (n, .zero)) (hb : Below w.heap.size w w') : ParsePost s w (.returned (.tuple #[zeroPV, .int .i64 (n : Int)])) w' := parsePost (pv := .slice none 0 0) h hb (IntRow.nil _ _)
theorem parseP_bad {s : List UInt8} (h : (U.bad s).isEmpty = false) : parseP s = (12, .zero) := by unfold parseP; rw [if_pos h]
theorem parseP_no {s : List UInt8} (h : (U.bad s).isEmpty = true) (h1 : printP (patOf (ptsI s)) ≠ (0, s)) : parseP s = (14, .zero) := by unfold parseP; rw [if_neg (by rw [h]; simp), if_neg h1]
theorem parseP_ok {s : List UInt8} (h : (U.bad s).isEmpty = true) (h1 : printP (patOf (ptsI s)) = (0, s)) : parseP s = (0, patOf (ptsI s)) := by unfold parseP; rw [if_neg (by rw [h]; simp), if_pos h1]
end Go.Proofs.YtdcdlmigagjbiaaDoor
