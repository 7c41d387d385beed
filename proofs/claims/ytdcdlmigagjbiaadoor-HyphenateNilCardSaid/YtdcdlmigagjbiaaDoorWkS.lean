/- The walks of both Fold. -/
import Derived.Test.YtdcdlmigagjbiaaDoorWkN
import Derived.Test.YtdcdlmigagjbiaaDoorWkG
import Derived.Laws.IdiomStrings
import Derived.ProofKit
namespace Go.Proofs.YtdcdlmigagjbiaaDoor
open Go.RowKit
/-- a new block of bytes, as '[]byte(s)' lays it, holds the bytes of s, none of them frozen -/
theorem bytes_made (w : World) (s : ByteArray) (cap e : Nat) :
    (∀ j (hj : j < s.size), (w.drew.alloc (.cells (bytesRow s cap) e ((bytesRow s cap).size, (bytesRow s cap).size + 1))).cell? ⟨w.heap.size, j, none⟩ = some (.int .u8 s[j].toNat)) ∧
    (∀ j, j < s.size → (w.drew.alloc (.cells (bytesRow s cap) e ((bytesRow s cap).size, (bytesRow s cap).size + 1))).frozen? ⟨w.heap.size, j, none⟩ = false) ∧
    Below w.heap.size w (w.drew.alloc (.cells (bytesRow s cap) e ((bytesRow s cap).size, (bytesRow s cap).size + 1))) := by
  have hrow : (w.drew.alloc (.cells (bytesRow s cap) e ((bytesRow s cap).size, (bytesRow s cap).size + 1))).heap[w.heap.size]? = some (.cells (bytesRow s cap) e ((bytesRow s cap).size, (bytesRow s cap).size + 1)) := by
    show (w.heap.push _)[w.heap.size]? = _
    simp
  have hsz : (bytesRow s cap).size = s.size + (cap - s.size) := by unfold bytesRow; simp
  refine ⟨fun j hj => ?_, fun j hj => ?_, ((Below.refl _ _).drew).alloc (Nat.le_refl _) _⟩
  · rw [Lib.cell_of_heap hrow]
    unfold bytesRow
    rw [Array.getElem?_append_left (by simpa using hj)]
    simp [hj]
    rfl
  · unfold World.frozen?
    rw [hrow]
    simp; omega
def fold1 (c : UInt8) : UInt8 := if 65 ≤ c.toNat ∧ c.toNat ≤ 90 then UInt8.ofNat (c.toNat + 32) else c
def foldK (l : List UInt8) (k : Nat) : List UInt8 := (l.take k).map fold1 ++ l.drop k
theorem foldK_len (l : List UInt8) (k : Nat) : (foldK l k).length = l.length := by unfold foldK; rw [List.length_append, List.length_map, List.length_take, List.length_drop]; omega
theorem foldK_ge (l : List UInt8) (k j : Nat) (hkj : k ≤ j) : (foldK l k)[j]? = l[j]? := by
  unfold foldK
  rcases Nat.lt_or_ge k l.length with hk | hk
  · rw [List.getElem?_append_right (by rw [List.length_map, List.length_take]; omega), List.length_map, List.length_take, List.getElem?_drop]
    congr 1; omega
  · rw [List.getElem?_append_right (by rw [List.length_map, List.length_take]; omega), List.length_map, List.length_take, List.getElem?_drop]
    rw [List.getElem?_eq_none (by omega), List.getElem?_eq_none (by omega)]
theorem foldK_succ (l : List UInt8) (k : Nat) (hk : k < l.length) (j : Nat) (hj : j ≠ k) : (foldK l (k + 1))[j]? = (foldK l k)[j]? := by
  rcases Nat.lt_or_ge j k with h | h
  · unfold foldK
    rw [List.getElem?_append_left (by rw [List.length_map, List.length_take]; omega), List.getElem?_append_left (by rw [List.length_map, List.length_take]; omega)]
    simp [show j < k by omega, show j < k + 1 by omega]
  · rw [foldK_ge l k j h, foldK_ge l (k + 1) j (by omega)]
theorem foldK_at (l : List UInt8) (k : Nat) (hk : k < l.length) : (foldK l (k + 1))[k]? = some (fold1 l[k]) := by
  unfold foldK
  rw [List.getElem?_append_left (by rw [List.length_map, List.length_take]; omega)]
  simp [List.getElem?_eq_getElem hk]
theorem fold1_let (c : UInt8) (h : 65 ≤ c.toNat) (h' : c.toNat ≤ 90) : ((fold1 c).toNat : Int) = (c.toNat : Int) + 32 ∧ bits .or .u8 (c.toNat : Int) 32 = ((fold1 c).toNat : Int) := by
  have h1 : fold1 c = UInt8.ofNat (c.toNat + 32) := by unfold fold1; rw [if_pos ⟨h, h'⟩]
  rw [u8_or32, h1, U.toNat_ofNat_lt _ (by omega)]
  have h2 : ∀ n : Fin 256, 65 ≤ n.val → n.val ≤ 90 → n.val ||| 32 = n.val + 32 := by decide +kernel
  refine ⟨by omega, ?_⟩
  rw [h2 ⟨c.toNat, UInt8.toNat_lt c⟩ h h']
theorem fold1_no (c : UInt8) (h : c.toNat < 65 ∨ 90 < c.toNat) : fold1 c = c := by unfold fold1; rw [if_neg (by omega)]
/-- the world's bytes at a block -/
def ByteBlock (w : World) (g : Nat) (l : List UInt8) : Prop := (∀ j (hj : j < l.length), w.cell? ⟨g, j, none⟩ = some (.int .u8 (l[j].toNat : Int))) ∧ ∀ j, j < l.length → w.frozen? ⟨g, j, none⟩ = false
theorem ByteBlock.skip {w : World} {g : Nat} {l : List UInt8} {k : Nat} (h : ByteBlock w g (foldK l k)) (hk : k < l.length) (hc : fold1 l[k] = l[k]) : ByteBlock w g (foldK l (k + 1)) := by
  have he : foldK l (k + 1) = foldK l k := by
    apply List.ext_getElem?
    intro j
    by_cases hj : j = k
    · subst hj; rw [foldK_at l j hk, foldK_ge l j j (Nat.le_refl _), hc, List.getElem?_eq_getElem hk]
    · exact foldK_succ l k hk j hj
  rw [he]; exact h
theorem ByteBlock.store {w : World} {g : Nat} {l : List UInt8} {k : Nat} (h : ByteBlock w g (foldK l k)) (hk : k < l.length) (z : Int) (hz : z = ((fold1 l[k]).toNat : Int)) : ByteBlock (w.setCell ⟨g, k, none⟩ (.int .u8 z)) g (foldK l (k + 1)) := by
  refine ⟨fun j hj => ?_, fun j hj => ?_⟩
  · by_cases hjk : j = k
    · subst hjk
      rw [World.cell?_setCell_same w ⟨g, j, none⟩ _ (h.1 j (by rw [foldK_len]; exact hk)), hz]
      have := foldK_at l j hk
      rw [List.getElem?_eq_getElem hj] at this
      simp only [Option.some.injEq] at this
      rw [this]
    · rw [World.cell?_setCell_other w ⟨g, k, none⟩ ⟨g, j, none⟩ _ (by intro e; simp at e <;> omega), h.1 j (by rw [foldK_len] at hj ⊢; exact hj)]
      have := foldK_succ l k hk j hjk
      rw [List.getElem?_eq_getElem hj, List.getElem?_eq_getElem (by rw [foldK_len] at hj ⊢; exact hj)] at this
      simp only [Option.some.injEq] at this
      rw [this]
  · rw [World.frozen?_setCell]; exact h.2 j (by rw [foldK_len] at hj ⊢; exact hj)
theorem foldK_end (l : List UInt8) (k : Nat) (hk : l.length ≤ k) : foldK l k = l.map fold1 := by
  unfold foldK; rw [List.take_of_length_le hk, List.drop_eq_nil_of_le hk, List.append_nil]
theorem ret_fold {l l' : List UInt8} (h : l = l') : Ending.returned (.string ⟨l.toArray⟩) = .returned (.string ⟨l'.toArray⟩) := by rw [h]
theorem conv_block {P : Program} {w : World} {src dst e g n cap : Nat} {l : List UInt8} (hs : P.underlying src = some (.slice e)) (he : P.underlying e = some (.int .u8)) (hd : P.underlying dst = some .string) (hn : l.length = n)
    (h : ByteBlock w g l) : (convert src dst (.slice (some ⟨g, 0, none⟩) n cap)).run P w = .ok (.string ⟨l.toArray⟩) w := by
  subst hn
  exact run_convert_bytes_back w src dst e ⟨g, 0, none⟩ cap l hs he hd (fun j hj => by rw [Go.WideShapes.add_plain, Nat.zero_add]; exact h.1 j hj)
set_option maxRecDepth 100000 in
set_option maxHeartbeats 1600000 in
theorem fold_any (s : ByteArray) (hs : s.size ≤ 4294967296) (w : World) :
    Calls Tryd.prog 29 #[.string s] w fun e w' => e = .returned (.string ⟨(s.data.toList.map fold1).toArray⟩) ∧ Below w.heap.size w w' := by
  have hlen : s.data.toList.length = s.size := by simp
  have Hlen := Lib.hid hlen
  clear hlen
  go_enter Tryd.func29, Tryd.ntmps29
  go_wp2_with fail
  rw [run_bytes_of_string w 9 76 5 s Tryd.underlying9 Tryd.underlying76 Tryd.underlying5]
  simp only [Result.andThen]
  rw [Oper.upon_value]
  obtain ⟨f1, f2, f3⟩ := bytes_made w s (grownCap w s.size 0 5) 5
  generalize (w.drew.alloc (.cells (bytesRow s (grownCap w s.size 0 5)) 5 ((bytesRow s (grownCap w s.size 0 5)).size, (bytesRow s (grownCap w s.size 0 5)).size + 1))) = W1 at f1 f2 f3 ⊢
  generalize grownCap w s.size 0 5 = cap
  have hblk : ByteBlock W1 w.heap.size (foldK s.data.toList 0) := by
    have h0 : foldK s.data.toList 0 = s.data.toList := by simp [foldK]
    rw [h0]
    exact ⟨fun j hj => f1 j (by rw [Hlen.out] at hj; exact hj), fun j hj => f2 j (by rw [Hlen.out] at hj; exact hj)⟩
  clear f1 f2
  go_wp2_with fail
  go_loopw [10] (fun i wr => ∃ k : Nat, k ≤ s.size ∧ i = .int .i64 k ∧ ByteBlock wr w.heap.size (foldK s.data.toList k) ∧ Below w.heap.size w wr) (fun i _ => s.size - (intOf i).toNat)
  case atStart => exact ⟨0, Nat.zero_le _, rfl, hblk, f3⟩
  case round =>
    obtain ⟨k, hk, rfl, hb, hbel⟩ := hrel
    clear hblk f3
    by_cases hlt : k < s.size
    · have hkl : Hid (k < s.data.toList.length) := Lib.hid (by rw [Hlen.out]; exact hlt)
      have hcell := hb.1 k (by rw [foldK_len]; exact hkl.out)
      have hfz := hb.2 k (by rw [foldK_len]; exact hkl.out)
      have hck : (foldK s.data.toList k)[k]'(by rw [foldK_len]; exact hkl.out) = s[k] := by
        have := foldK_ge s.data.toList k k (Nat.le_refl _)
        rw [List.getElem?_eq_getElem (by rw [foldK_len]; exact hkl.out), List.getElem?_eq_getElem hkl.out] at this
        simp only [Option.some.injEq] at this
        rw [this]; rfl
      rw [hck] at hcell
      have hsk : Hid (s.data.toList[k]'hkl.out = s[k]) := Lib.hid rfl
      have Hb := Lib.hid hb
      have hbt := UInt8.toNat_lt s[k]
      clear hck hb
      by_cases hlet : 65 ≤ s[k].toNat ∧ s[k].toNat ≤ 90
      · obtain ⟨g, g'⟩ := hlet
        obtain ⟨z1, z2⟩ := fold1_let s[k] g g'
        have Hst := fun z hz => Lib.hid (Hb.out.store hkl.out z (by rw [hsk.out]; exact hz))
        clear z1
        generalize ((fold1 s[k]).toNat : Int) = z at z2 Hst
        have HS := Lib.hid (Hst z rfl)
        clear Hst
        go_wp2
        go_roundw
        case rel => exact ⟨k + 1, by omega, by go_num, HS.out, hbel.setCell (p := ⟨w.heap.size, k, none⟩) (Nat.le_refl _) _⟩
        case measure => (simp [intOf] <;> omega)
      · have HS := Lib.hid (Hb.out.skip hkl.out (by rw [hsk.out]; exact fold1_no _ (by omega)))
        rcases (by omega : s[k].toNat < 65 ∨ (65 ≤ s[k].toNat ∧ 90 < s[k].toNat)) with g | ⟨g, g'⟩
        all_goals
          clear hlet
          go_wp2
          go_roundw
          case rel => exact ⟨k + 1, by omega, by go_num, HS.out, hbel⟩
          case measure => (simp [intOf] <;> omega)
    · have hen := foldK_end s.data.toList k (by rw [Hlen.out]; omega)
      rw [hen] at hb
      have hconv := conv_block (P := Tryd.prog) (n := s.size) (cap := cap) Tryd.underlying76 Tryd.underlying5 Tryd.underlying9 (by rw [List.length_map, Hlen.out]) hb
      clear hen hb
      go_wp2
      go_ret
      exact ⟨rfl, hbel⟩
end Go.Proofs.YtdcdlmigagjbiaaDoor
