/- The walks of same, of both IsName and of both Fold. -/
import Derived.Test.YtdcdlmigagjbiaaDoorWkH
import Derived.Deep.QuietTactic
import Derived.BigQuiet
namespace Go.Proofs.YtdcdlmigagjbiaaDoor
open Go.RowKit
theorem same_step (la lb : List Int) (k : Nat) (h1 : la.length = lb.length) (hk : k < la.length) (hp : la.take k = lb.take k) : la.take (k + 1) = lb.take (k + 1) ↔ la.getD k 0 = lb.getD k 0 := by
  have e1 : la.getD k 0 = la[k] := by simp [List.getD, List.getElem?_eq_getElem hk]
  have hk2 : k < lb.length := by omega
  have e2 : lb.getD k 0 = lb[k] := by simp [List.getD, List.getElem?_eq_getElem hk2]
  rw [e1, e2, List.take_succ_eq_append_getElem hk, List.take_succ_eq_append_getElem hk2, hp]
  constructor
  · intro h
    have := List.append_cancel_left h
    simpa using this
  · intro h; rw [h]
theorem same_end (la lb : List Int) (k : Nat) (h1 : la.length = lb.length) (hk : la.length ≤ k) (hp : la.take k = lb.take k) : la = lb := by
  rw [List.take_of_length_le hk, List.take_of_length_le (by omega)] at hp; exact hp
def SamePost (la lb : List Int) (w : World) (e : Ending) (w' : World) : Prop := e = .returned (.bool (la == lb)) ∧ Below w.heap.size w w'
theorem ret_bool {a b : Bool} (h : a = b) : Ending.returned (.bool b) = .returned (.bool a) := by rw [h]
set_option maxRecDepth 100000 in
set_option maxHeartbeats 800000 in
theorem same_any (va vb : Value) (la lb : List Int) (w : World) (hla : la.length ≤ 1000000000) (hlb : lb.length ≤ 1000000000) (ha : Ints w va la) (hb : Ints w vb lb) :
    Calls Tryd.prog 28 #[va, vb] w (SamePost la lb w) := by
  by_cases hne : la.length = lb.length
  · rcases ha.open with ⟨rfl, ao, cap, rfl⟩ | ⟨hpos, b, off, cap, rfl, _, _, hlt, hc⟩
    · have : lb = [] := List.length_eq_zero_iff.1 hne.symm
      subst this
      obtain ⟨bo, cap2, rfl⟩ := hb.shape
      clear ha hb hne
      go_enter Tryd.func28, Tryd.ntmps28
      go_wp2
      refine wp_loop_rounds 1 ?_
      rw [rounds_succ]
      go_wp2
      go_ret
      exact ⟨rfl, Below.refl _ _⟩
    · rcases hb.open with ⟨rfl, bo, cap2, rfl⟩ | ⟨_, b2, off2, cap2, rfl, _, _, hlt2, hc2⟩
      · simp at hne; subst hne; simp at hpos
      have hc' := Lib.hid hc
      have hc2' := Lib.hid hc2
      have Hne := Lib.hid hne
      have hle : lb.length = la.length := hne.symm
      rw [hle] at hlb ⊢
      clear hc hc2 ha hb hne hle
      go_enter Tryd.func28, Tryd.ntmps28
      go_wp2
      go_loopw [5] (fun i wr => ∃ k : Nat, k ≤ la.length ∧ i = .int .i64 k ∧ la.take k = lb.take k ∧ Below w.heap.size w wr) (fun i _ => la.length - (intOf i).toNat)
      case atStart => exact ⟨0, Nat.zero_le _, rfl, rfl, Below.refl _ _⟩
      case round =>
        obtain ⟨k, hk, rfl, hp, hbel⟩ := hrel
        have Hp := Lib.hid hp
        clear hp
        by_cases hlk : k < la.length
        · have hcell : wr.cell? ⟨b, off + k, none⟩ = some (.int .i64 (la.getD k 0)) := (hbel.cell (p := ⟨b, off + k, none⟩) hlt).trans (hc'.out k hlk)
          have hcell2 : wr.cell? ⟨b2, off2 + k, none⟩ = some (.int .i64 (lb.getD k 0)) := (hbel.cell (p := ⟨b2, off2 + k, none⟩) hlt2).trans (hc2'.out k (by have := Hne.out; omega))
          have hst := Lib.hid (same_step la lb k Hne.out hlk Hp.out)
          have hno : ¬ (la.getD k 0 = lb.getD k 0) → Hid ((la == lb) = false) := fun h => Lib.hid (by rw [beq_eq_false_iff_ne]; intro e; exact h (by rw [e]))
          generalize la.getD k 0 = x at hcell hst hno
          generalize lb.getD k 0 = y at hcell2 hst hno
          obtain ⟨c, hcq⟩ : ∃ c, (x != y) = c := ⟨_, rfl⟩
          cases c
          · have hxy : x = y := by simpa using hcq
            have hst2 := Lib.hid (hst.out.2 hxy)
            clear hno hst hxy
            go_wp2
            go_quiet (fail)
            go_wp2
            go_roundw
            case rel => exact ⟨k + 1, by omega, by go_num, hst2.out, below_drewN hbel _⟩
            case measure => simp [intOf]; omega
          · have hno' := hno (by simpa using hcq)
            clear hno hst
            go_wp2
            go_quiet (fail)
            go_wp2
            go_ret
            exact ⟨ret_bool hno'.out, below_drewN hbel _⟩
        · have he := Lib.hid (show (la == lb) = true by rw [beq_iff_eq]; exact same_end la lb k Hne.out (by omega) Hp.out)
          go_wp2
          go_ret
          exact ⟨ret_bool he.out, hbel⟩
  · have he := Lib.hid (show (la == lb) = false by rw [beq_eq_false_iff_ne]; intro e; exact hne (by rw [e]))
    obtain ⟨ao, cap, rfl⟩ := ha.shape
    obtain ⟨bo, cap2, rfl⟩ := hb.shape
    have hq : (((la.length : Nat) : Int) != (lb.length : Int)) = true := by rw [bne_iff_ne]; omega
    clear ha hb hne
    go_enter Tryd.func28, Tryd.ntmps28
    go_wp2
    go_ret
    exact ⟨ret_bool he.out, Below.refl _ _⟩

def isLet (c : UInt8) : Bool := (decide (65 ≤ c.toNat) && decide (c.toNat ≤ 90)) || (decide (97 ≤ c.toNat) && decide (c.toNat ≤ 122))
def isOth (c : UInt8) : Bool := (decide (48 ≤ c.toNat) && decide (c.toNat ≤ 57)) || decide (c.toNat = 45) || decide (c.toNat = 95)
def nameGo : Nat → List UInt8 → Bool
  | _, [] => true
  | i, c :: r => (isLet c || (decide (0 < i) && isOth c)) && nameGo (i + 1) r
/-- what IsName returns -/
def nameP (l : List UInt8) : Bool := nameGo 0 l && (decide (1 ≤ l.length) && decide (l.length ≤ 40))
theorem name_step (s : ByteArray) (k : Nat) (hk : k < s.size) : nameGo k (s.data.toList.drop k) = ((isLet s[k] || (decide (0 < k) && isOth s[k])) && nameGo (k + 1) (s.data.toList.drop (k + 1))) := by
  rw [List.drop_eq_getElem_cons (by simpa using hk)]; rfl
theorem u8_or32 (c : UInt8) : bits .or .u8 (c.toNat : Int) 32 = ((c.toNat ||| 32 : Nat) : Int) := by
  have h : ∀ n : Fin 256, bits .or .u8 (n.val : Int) 32 = ((n.val ||| 32 : Nat) : Int) := by decide +kernel
  exact h ⟨c.toNat, UInt8.toNat_lt c⟩
theorem or32 (c : UInt8) : (c.toNat < 65 → c.toNat ||| 32 ≤ 96) ∧ (65 ≤ c.toNat → c.toNat ≤ 90 → 97 ≤ c.toNat ||| 32 ∧ c.toNat ||| 32 ≤ 122) ∧ (91 ≤ c.toNat → c.toNat ≤ 95 → 123 ≤ c.toNat ||| 32) ∧ (c.toNat = 96 → c.toNat ||| 32 ≤ 96) ∧ (97 ≤ c.toNat → c.toNat ≤ 122 → 97 ≤ c.toNat ||| 32 ∧ c.toNat ||| 32 ≤ 122) ∧ (123 ≤ c.toNat → 123 ≤ c.toNat ||| 32) := by
  have h : ∀ n : Fin 256, (n.val < 65 → n.val ||| 32 ≤ 96) ∧ (65 ≤ n.val → n.val ≤ 90 → 97 ≤ n.val ||| 32 ∧ n.val ||| 32 ≤ 122) ∧ (91 ≤ n.val → n.val ≤ 95 → 123 ≤ n.val ||| 32) ∧ (n.val = 96 → n.val ||| 32 ≤ 96) ∧ (97 ≤ n.val → n.val ≤ 122 → 97 ≤ n.val ||| 32 ∧ n.val ||| 32 ≤ 122) ∧ (123 ≤ n.val → 123 ≤ n.val ||| 32) := by decide +kernel
  exact h ⟨c.toNat, UInt8.toNat_lt c⟩
theorem nameP_long (s : ByteArray) (h : s.size < 1 ∨ 40 < s.size) : nameP s.data.toList = false := by
  have : s.data.toList.length = s.size := by simp
  unfold nameP
  rcases h with h | h
  · rw [show decide (1 ≤ s.data.toList.length) = false from decide_eq_false (by omega)]; simp
  · rw [show decide (s.data.toList.length ≤ 40) = false from decide_eq_false (by omega)]; simp
theorem nameP_short (s : ByteArray) (h : 1 ≤ s.size) (h' : s.size ≤ 40) : nameP s.data.toList = nameGo 0 s.data.toList := by
  have : s.data.toList.length = s.size := by simp
  unfold nameP
  rw [show decide (1 ≤ s.data.toList.length) = true from decide_eq_true (by omega), show decide (s.data.toList.length ≤ 40) = true from decide_eq_true (by omega)]; simp
end Go.Proofs.YtdcdlmigagjbiaaDoor
