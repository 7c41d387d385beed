/- Bytes of the area of a device. -/
import Derived.Test.YtfdnpchbbngpjaaGreatJhd
import Derived.Test.YtfdnpchbbngpjaaGreatBld
namespace Go.Proofs.YtfdnpchbbngpjaaGreat
attribute [local go_sem ↓] Go.wp_at_zero Go.wp_at_succ
open Go.RowKit Go.Maps

theorem builder_below {T e : TypeId} {B b : Nat} {bs : List Value} {w w' : World} (h : Lib.IsBuilder T e B b bs w) (hb : Below w.heap.size w w') : Lib.IsBuilder T e B b bs w' := by
  have go : ∀ p, Lib.BuilderAt T e B b p bs w → Lib.BuilderAt T e B b p bs w' := by
    rintro p ⟨h1, v, h2, h3, h4⟩
    exact ⟨h1, v, (hb.block b (Array.getElem?_eq_some_iff.1 h2).1).trans h2, row_turn h3 (Turn.ofBelow (F := []) hb (Nat.le_refl _)) (fun _ _ => by simp), h4⟩
  rcases h with h | h
  · exact .inl (go _ h)
  · exact .inr (go _ h)
theorem read_in' {st : VS} (hd : st.down = false) {k : Nat} (hk : k < st.dur.length) : st.read (k : Int) = (st.content k, 0) := by
  unfold VS.read
  rw [if_neg (by rw [hd]; decide), if_neg (by rw [inR_iff.2 ⟨by omega, by omega⟩]; decide)]
  simp
set_option maxRecDepth 100000 in
set_option maxHeartbeats 2000000 in
theorem bytes_any {w : World} {vb : Nat} {st : VS} {F : List Nat} (hV : VolF w vb st F) (hd : st.down = false) {m : Nat} (hl : st.dur.length = m + 2) (hm : 1 ≤ m) (p k : Nat) (hp : p ≤ 1125899906842624) (hk : k ≤ 1048576) :
    Calls Tryz.prog 82 #[.pointer (some ⟨vb, 0, none⟩), .int .i64 (p : Int), .int .i64 (k : Int)] w fun e w' => e = .returned (.string (bytesOf (rd st.area p k))) ∧ Below w.heap.size w w' := by
  have hwf := hV.wf
  have hA : st.area.length = 256 * m := by rw [hwf.area, hl]; rfl
  have h64 := hwf.len
  go_enter Tryz.func82, Tryz.ntmps82
  go_wp2_with (first | (go_at_call 66; refine (area_any hV hl).mono ?_; rintro e w' ⟨rfl, rfl⟩))
  go_loopw [1, 2] (fun i j wr => ∃ d : Nat, d ≤ k ∧ i = .int .i64 ((p + d : Nat) : Int) ∧ j = .int .i64 ((k - d : Nat) : Int) ∧ Lib.IsBuilder 154 5 w.heap.size w.heap.size (Lib.byteCells (rd st.area p d)) wr ∧ Below w.heap.size w wr) (fun _ j _ => (intOf j).toNat)
  case atStart =>
    refine ⟨0, Nat.zero_le _, rfl, rfl, Or.inl ?_, (Below.refl _ _).alloc (Nat.le_refl _) _⟩
    exact ⟨Nat.le_refl _, _, by show (w.heap.push _)[w.heap.size]? = _; simp, World.ownsRow_nil _ _ _ _, by simp [Value.ownBlock]⟩
  case round =>
    obtain ⟨d, hdk, rfl, rfl, hbd, hbel⟩ := hrel
    have hsz := hbel.size
    have hV1 := hV.below hbel
    by_cases hlt : d < k
    · obtain ⟨o, ho⟩ : ∃ o, (p + d) % (256 * m) = o := ⟨_, rfl⟩
      have hom : o < 256 * m := by rw [← ho]; exact Nat.mod_lt _ (by omega)
      have hrd := read_in' hd (k := 2 + o / 256) (by omega)
      have hcs := hwf.content (2 + o / 256)
      obtain ⟨s, hs⟩ : ∃ s, st.content (2 + o / 256) = s := ⟨_, rfl⟩
      rw [hs] at hrd hcs
      have HRD := Lib.hid hrd
      have em : ((p : Int) + (d : Int)) % (256 * (m : Int)) = (o : Int) := by rw [← ho]; rfl
      have hsec : s.data.toList = sec st.area (o / 256) := by
        rw [hwf.sec (by rw [hl]; omega)]
        show _ = (st.content (2 + o / 256)).data.toList
        rw [hs]
      obtain ⟨q, hq, hq1⟩ : ∃ q, min (k - d) (256 - o % 256) = q ∧ 1 ≤ q := ⟨_, rfl, by omega⟩
      have ex1 : (min ((o : Int) % 256) 256).toNat = o % 256 := by omega
      have ex2 : (min ((o : Int) % 256 + ((k - d : Nat) : Int)) 256).toNat = o % 256 + q := by omega
      have epart : s.extract (o % 256) (o % 256 + q) = bytesOf (rd st.area (p + d) q) := by
        apply bytes_ext
        rw [ByteArray.data_extract, Array.toList_extract, bytesOf_list]
        have := rd_part hA (by omega) (p := p + d) (k := q) (by rw [hA, ho]; omega)
        rw [hA, ho, ← hsec] at this
        rw [← this]
        show List.take (o % 256 + q - o % 256) (List.drop (o % 256) s.data.toList) = _
        rw [show o % 256 + q - o % 256 = q from by omega]
      have hpz : (bytesOf (rd st.area (p + d) q)).size = q := by rw [bytesOf_size, rd_length]
      have hne : ((bytesOf (rd st.area (p + d) q)).toList == []) = false := by
        rw [beq_eq_false_iff_ne, ByteArray.toList_eq, bytesOf_list]
        intro e
        have := congrArg List.length e
        rw [rd_length] at this
        exact absurd this (by show ¬ q = 0; omega)
      have hbl : (Lib.byteCells (rd st.area p d)).length = d := by rw [Lib.byteCells_length, rd_length]
      have HNX := Lib.hid (show Lib.byteCells (rd st.area p d) ++ Lib.strCells (bytesOf (rd st.area (p + d) q)) = Lib.byteCells (rd st.area p (d + q)) by
        unfold Lib.strCells Lib.byteCells
        rw [rd_add, List.map_append, bytesOf_list])
      have HBL := Lib.hid hbl
      clear hrd
      go_wp2_with (first
        | (go_at_call 37; refine (read_any ((2 + o / 256 : Nat) : Int) hV1).mono ?_; rw [HRD.out]; rintro e w1 ⟨rfl, hb1⟩)
        | (go_at_call 89; refine (writeString_any w.heap.size w.heap.size (Lib.byteCells (rd st.area p d)) _ _ (builder_below hbd hb1) (by rw [HBL.out, hpz]; omega) (Nat.le_trans hsz hb1.size)).mono ?_; rintro e w2 ⟨rfl, hbd2, hb2⟩))
      go_roundw
      case rel =>
        refine ⟨d + q, by omega, by go_num, by go_num, Or.inr ?_, hbel.trans ((hb1.mono hsz).trans (hb2.mono (by have := hb1.size; omega)))⟩
        rw [HNX.out] at hbd2; exact hbd2
      case measure => simp [intOf]; omega
    · obtain rfl : d = k := by omega
      go_wp2_with (first | (go_at_call 90; refine (string_any w.heap.size w.heap.size (rd st.area p d) _ hbd hsz).mono ?_; rintro e w1 ⟨rfl, hb1⟩))
      go_ret
      exact ⟨rfl, hbel.trans (hb1.mono (by omega))⟩
end Go.Proofs.YtfdnpchbbngpjaaGreat
