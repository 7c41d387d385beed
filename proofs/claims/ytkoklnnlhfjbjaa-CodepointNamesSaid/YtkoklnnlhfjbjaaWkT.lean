/- The walk of the reference's Fold, and of the law CodepointNames. -/
import Derived.Test.YtkoklnnlhfjbjaaWkS
import Derived.Test.YtkoklnnlhfjbjaaWkO
import Derived.Test.YtkoklnnlhfjbjaaWkQ
namespace Go.Proofs.Ytkoklnnlhfjbjaa
open Go.RowKit
set_option maxRecDepth 100000 in
set_option maxHeartbeats 1600000 in
theorem refFold_any (s : ByteArray) (hs : s.size ≤ 4294967296) (w : World) :
    Calls Try.prog 31 #[.string s] w fun e w' => e = .returned (.string ⟨(s.data.toList.map fold1).toArray⟩) ∧ Below w.heap.size w w' := by
  have hlen : s.data.toList.length = s.size := by simp
  have Hlen := Lib.hid hlen
  clear hlen
  go_enter Try.func31, Try.ntmps31
  go_wp2_with fail
  rw [run_bytes_of_string w 9 52 5 s Try.underlying9 Try.underlying52 Try.underlying5]
  simp only [Result.andThen]
  rw [Oper.upon_value]
  obtain ⟨f1, f2, f3⟩ := bytes_made w s (grownCap w s.size 0 5) 5
  generalize (w.drew.alloc (.cells (bytesRow s (grownCap w s.size 0 5)) 5 ((bytesRow s (grownCap w s.size 0 5)).size, (bytesRow s (grownCap w s.size 0 5)).size + 1))) = W1 at f1 f2 f3 ⊢
  generalize grownCap w s.size 0 5 = cap
  have hblk : ByteBlock W1 w.heap.size (foldK s.data.toList 0) := by
    have h0 : foldK s.data.toList 0 = s.data.toList := by simp [foldK]
    rw [h0]
    exact ⟨fun j hj => f1 j (by rw [Hlen.out] at hj; exact hj), fun j hj => f2 j (by rw [Hlen.out] at hj; exact hj)⟩
  clear f1 f2
  go_wp2_with fail
  go_loopw [4] (fun i wr => ∃ k : Nat, k ≤ s.size ∧ i = .int .i64 k ∧ ByteBlock wr w.heap.size (foldK s.data.toList k) ∧ Below w.heap.size w wr) (fun i _ => s.size - (intOf i).toNat)
  case atStart => exact ⟨0, Nat.zero_le _, rfl, hblk, f3⟩
  case round =>
    obtain ⟨k, hk, rfl, hb, hbel⟩ := hrel
    clear hblk f3
    by_cases hlt : k < s.size
    · have hkl : Hid (k < s.data.toList.length) := Lib.hid (by rw [Hlen.out]; exact hlt)
      have hcell := hb.1 k (by rw [foldK_len]; exact hkl.out)
      have hfz := hb.2 k (by rw [foldK_len]; exact hkl.out)
      have hck : (foldK s.data.toList k)[k]'(by rw [foldK_len]; exact hkl.out) = s[k] := by
        have := foldK_ge s.data.toList k k (Nat.le_refl _)
        rw [List.getElem?_eq_getElem (by rw [foldK_len]; exact hkl.out), List.getElem?_eq_getElem hkl.out] at this
        simp only [Option.some.injEq] at this
        rw [this]; rfl
      rw [hck] at hcell
      have hsk : Hid (s.data.toList[k]'hkl.out = s[k]) := Lib.hid rfl
      have Hb := Lib.hid hb
      have hbt := UInt8.toNat_lt s[k]
      clear hck hb
      by_cases hlet : 65 ≤ s[k].toNat ∧ s[k].toNat ≤ 90
      · obtain ⟨g, g'⟩ := hlet
        obtain ⟨z1, _z2⟩ := fold1_let s[k] g g'
        have Hst := fun z hz => Lib.hid (Hb.out.store hkl.out z (by rw [hsk.out]; exact hz))
        have HS := Lib.hid (Hst ((s[k].toNat : Int) + 32) z1.symm)
        clear z1 _z2
        clear Hst
        go_wp2
        go_roundw
        case rel => exact ⟨k + 1, by omega, by go_num, HS.out, hbel.setCell (p := ⟨w.heap.size, k, none⟩) (Nat.le_refl _) _⟩
        case measure => (simp [intOf] <;> omega)
      · have HS := Lib.hid (Hb.out.skip hkl.out (by rw [hsk.out]; exact fold1_no _ (by omega)))
        rcases (by omega : s[k].toNat < 65 ∨ (65 ≤ s[k].toNat ∧ 90 < s[k].toNat)) with g | ⟨g, g'⟩
        all_goals
          clear hlet
          go_wp2
          go_roundw
          case rel => exact ⟨k + 1, by omega, by go_num, HS.out, hbel⟩
          case measure => (simp [intOf] <;> omega)
    · have hen := foldK_end s.data.toList k (by rw [Hlen.out]; omega)
      rw [hen] at hb
      have hconv := conv_block (P := Try.prog) (n := s.size) (cap := cap) Try.underlying52 Try.underlying5 Try.underlying9 (by rw [List.length_map, Hlen.out]) hb
      clear hen hb
      go_wp2
      go_ret
      exact ⟨rfl, hbel⟩
set_option maxRecDepth 100000 in
set_option maxHeartbeats 400000 in
theorem lawNames (s : ByteArray) (hs : s.size ≤ 9223372036854775807) (w : World) : Calls Try.prog 9 #[.string s] w (LawPost w) := by
  have hc := size_cutS s
  have hcut := Lib.hid (cut_any s hs)
  clear hs
  generalize cutS s = t at hc hcut
  have ht : t.size ≤ 4294967296 := by omega
  have hf1 := Lib.hid (fold_any t ht)
  have hf2 := Lib.hid (refFold_any t ht)
  have hn1 := Lib.hid (isName_any t ht)
  have hn2 := Lib.hid (refIsName_any t ht)
  generalize t.data.toList.map fold1 = F at hf1 hf2
  generalize nameP t.data.toList = b at hn1 hn2
  have hB : Below w.heap.size w w := Below.refl _ _
  go_enter Try.func9, Try.ntmps9
  go_wp2_with (first
    | (go_at_call 12; (with_reducible refine (hcut.out _).mono ?_); rintro e w' ⟨rfl, rfl⟩)
    | (go_at_call 14; (with_reducible refine (known_any _).mono ?_); rintro e w1 ⟨rfl, hb1⟩; have hB := hB.trans (hb1.mono hB.size))
    | (go_at_call 30; (with_reducible refine (hf1.out _).mono ?_); rintro e w2 ⟨rfl, hb2⟩; have hB := hB.trans (hb2.mono hB.size))
    | (go_at_call 31; (with_reducible refine (hf2.out _).mono ?_); rintro e w3 ⟨rfl, hb3⟩; have hB := hB.trans (hb3.mono hB.size))
    | (go_at_call 32; (with_reducible refine (hn1.out _).mono ?_); rintro e w' ⟨rfl, rfl⟩)
    | (go_at_call 33; (with_reducible refine (hn2.out _).mono ?_); rintro e w' ⟨rfl, rfl⟩))
  go_ret
  exact ⟨by simp, hB⟩
end Go.Proofs.Ytkoklnnlhfjbjaa
