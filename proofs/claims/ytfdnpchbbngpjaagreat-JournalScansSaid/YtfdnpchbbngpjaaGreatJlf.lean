/- The law's own frame of a record. -/
import Derived.Test.YtfdnpchbbngpjaaGreatJlc
import Derived.Lib.AppendStr
namespace Go.Proofs.YtfdnpchbbngpjaaGreat
open Go.RowKit Go.Maps

theorem row_news {w : World} {base e n c g : Nat} {xs : List Value} (h : w.ownsRow base e 1 (.slice (some ⟨g, 0, none⟩) n c) n xs) : ∀ j u, xs[j]? = some u → w.cell? ((⟨g, 0, none⟩ : Addr).add j) = some u := by
  intro j u hu
  have hl := h.1
  have hj : j < xs.length := (List.getElem?_eq_some_iff.1 hu).1
  have := h.cellAt j (by omega)
  have e0 : ((⟨g, 0, none⟩ : Addr).add j) = ⟨g, j, none⟩ := by
    unfold Addr.add
    split
    · rename_i h0; subst h0; rfl
    · simp
  rw [e0, this, hu]
theorem byteCells_one (l : List UInt8) : ∀ u ∈ Lib.byteCells l, u.oneCell' = true := by
  intro u hu
  unfold Lib.byteCells at hu
  obtain ⟨x, _, rfl⟩ := List.mem_map.1 hu
  rfl
theorem byteCells_app (a b : List UInt8) : Lib.byteCells (a ++ b) = Lib.byteCells a ++ Lib.byteCells b := by unfold Lib.byteCells; rw [List.map_append]
theorem Byts.of_row {w : World} {base : Nat} {v : Value} {l : List UInt8} (h : w.ownsRow base 5 1 v l.length (Lib.byteCells l)) (hl : l.length ≤ 1048576) : Byts w v l := by
  rcases h.2 with ⟨h1, h2⟩ | ⟨g, cap, cur, h1, _, hh, _⟩
  · exact ⟨none, 0, by rw [h1, h2], by omega, fun h => by omega⟩
  · subst h1
    refine ⟨some ⟨g, 0, none⟩, cap, rfl, by omega, fun _ => ⟨g, 0, rfl, (Array.getElem?_eq_some_iff.1 hh).1, fun j hj => ?_⟩⟩
    rw [Nat.zero_add, h.cellAt j (by omega)]
    unfold Lib.byteCells
    rw [List.getElem?_map, List.getD_eq_getElem?_getD, List.getElem?_eq_getElem hj]
    rfl
/-- what an append to a row of the call's own leaves -/
theorem grow_row {w w2 w3 : World} {B e n m : Nat} {v v3 : Value} {xs ys : List Value} (hb : Below B w w2) (hB : B ≤ w2.heap.size) (ho : w2.ownsRow B e 1 v n xs) (ho3 : w3.ownsRow B e 1 v3 (n + m) (xs ++ ys)) (hg : w2.grownBy w3 v.ownBlock) (hnm : 0 < n + m) :
    ∃ g c, v3 = .slice (some ⟨g, 0, none⟩) (n + m) c ∧ g < w3.heap.size ∧ Below B w w3 := by
  have hb3 : Below B w w3 := hb.grown hg hB (fun k hk => (ho.lt k hk).1)
  rcases ho3.2 with ⟨h1, h2⟩ | ⟨g, cap, cur, h1, _, hh, _⟩
  · omega
  · exact ⟨g, cap, h1, (Array.getElem?_eq_some_iff.1 hh).1, hb3⟩
/-- an empty slice of a block of its own -/
theorem empty_row (w : World) {B : Nat} (hB : B ≤ w.heap.size) (e : TypeId) : (w.alloc (.cells #[] e)).ownsRow B e 1 (.slice (some ⟨w.heap.size, 0, none⟩) 0 0) 0 [] :=
  ⟨rfl, .inr ⟨w.heap.size, 0, #[], rfl, hB, heap_alloc_new w _, Nat.le_refl _, Nat.zero_le _, rfl, rfl⟩⟩
set_option maxRecDepth 100000 in
set_option maxHeartbeats 4000000 in
theorem lframe_any (n : Nat) (d : ByteArray) (hn : n < 9223372036854775808) (hd : d.size ≤ 65536) (w : World) :
    Calls Tryz.prog 69 #[.int .i64 (n : Int), .string d] w fun e w' => ∃ v, e = .returned v ∧ w'.ownsRow w.heap.size 5 1 v (16 + d.size) (Lib.byteCells (frameL n d.data.toList)) ∧ Below w.heap.size w w' := by
  obtain ⟨i0, hi, hz0, hz1, hz2⟩ := info_parts ju8_info
  go_enter Tryz.func69, Tryz.ntmps69
  have hfh : Lib.byteCells (beN 4 d.size) ++ Lib.byteCells (beN 8 n) = Lib.byteCells (frameH n d.data.toList) := by
    rw [← byteCells_app]; unfold frameH; rw [Array.length_toList]; rfl
  have hsc : Lib.byteCells (frameH n d.data.toList) ++ Lib.strCells d = Lib.byteCells (frameH n d.data.toList ++ d.data.toList) := by rw [byteCells_app]; rfl
  have hfl : (frameH n d.data.toList ++ d.data.toList).length = 12 + d.size := by rw [List.length_append, frameH_length, Array.length_toList]; rfl
  have HFH := Lib.hid hfh
  have HSC := Lib.hid hsc
  have HFL := Lib.hid hfl
  clear hfh hsc hfl
  obtain ⟨cs, hcs⟩ : ∃ cs, crc (frameH n d.data.toList ++ d.data.toList) = cs := ⟨_, rfl⟩
  have hcl : cs < 4294967296 := by rw [← hcs]; exact crc_lt _
  have HCS := Lib.hid hcs
  clear hcs
  go_wp2_with (first
    | (go_at_call_of 67 (Value.int .i64 (cs : Int)); refine (lnumber_any cs 4 (by omega) (by decide) (by decide) _).mono ?_; rintro e w6 ⟨g6, rfl, ho6, hb6⟩; have ho3 := row_turn ho3 (Turn.ofBelow (F := []) hb6 (Nat.le_refl _)) (fun _ _ => by simp); have hb6 := hb5.trans (hb6.mono hb5.size))
    | (at_builtin; refine wpList_append_own _ rfl _ _ 31 rfl w.heap.size 5 i0 (.int .u8 0) 1 1 Tryz.underlying31 hi hz0 hz1 hz2 rfl (by decide) (.slice (some ⟨g3, 0, none⟩) (4 + 8) c3) (4 + 8) (Lib.byteCells (frameH n d.data.toList)) rfl ho3 ⟨g6, 0, none⟩ 4 4 (Lib.byteCells (beN 4 cs)) rfl (by rw [Lib.byteCells_length, beN_length]) (row_news ho6) (byteCells_one _) (by unfold maxLen; omega) (by omega) hb6.size ?_; intro v7 w7 ho7 hg7 _; obtain ⟨g7, c7, rfl, hl7, hb7⟩ := grow_row hb6 hb6.size ho3 ho7 hg7 (by decide))
    | (at_builtin; refine Lib.wpList_append_own_string _ rfl _ _ 31 9 rfl w.heap.size 5 i0 Tryz.underlying31 Tryz.underlying9 hi hz0 hz1 hz2 (.slice (some ⟨g7, 0, none⟩) (4 + 8 + 4) c7) (4 + 8 + 4) (Lib.byteCells (frameH n d.data.toList) ++ Lib.byteCells (beN 4 cs)) rfl ho7 d rfl (by unfold maxLen; omega) (by omega) hb7.size ?_; intro v8 w8 ho8 hg8 _; obtain ⟨g8, c8, rfl, hl8, hb8⟩ := grow_row hb7 hb7.size ho7 ho8 hg8 (by omega))
    | (go_at_call_of 67 (Value.int .i64 (d.size : Int)); refine (lnumber_any d.size 4 (by omega) (by decide) (by decide) _).mono ?_; rintro e w1 ⟨g1, rfl, ho1, hb1⟩)
    | (go_at_call_of 67 (Value.int .i64 (n : Int)); refine (lnumber_any n 8 hn (by decide) (by decide) _).mono ?_; rintro e w2 ⟨g2, rfl, ho2, hb2⟩; have ho1 := row_turn ho1 (Turn.ofBelow (F := []) hb2 (Nat.le_refl _)) (fun _ _ => by simp); have hb2 := hb1.trans (hb2.mono hb1.size))
    | (at_builtin; refine wpList_append_own _ rfl _ _ 31 rfl w.heap.size 5 i0 (.int .u8 0) 1 1 Tryz.underlying31 hi hz0 hz1 hz2 rfl (by decide) _ 4 (Lib.byteCells (beN 4 d.size)) rfl ho1 ⟨g2, 0, none⟩ 8 8 (Lib.byteCells (beN 8 n)) rfl (by rw [Lib.byteCells_length, beN_length]) (row_news ho2) (byteCells_one _) (by unfold maxLen; omega) (by omega) hb2.size ?_; intro v3 w3 ho3 hg3 _; obtain ⟨g3, c3, rfl, hl3, hb3⟩ := grow_row hb2 hb2.size ho1 ho3 hg3 (by decide); rw [HFH.out] at ho3)
    | (at_builtin; refine wpList_append_own_at _ rfl _ _ 31 rfl w.heap.size 5 i0 (.int .u8 0) 1 1 Tryz.underlying31 hi hz0 hz1 hz2 rfl (by decide) (.slice (some ⟨w3.heap.size, 0, none⟩) 0 0) 0 [] rfl (empty_row w3 hb3.size _) ⟨g3, 0, none⟩ 12 c3 (Lib.byteCells (frameH n d.data.toList)) rfl (by rw [Lib.byteCells_length, frameH_length]) (row_news (ho3.alloc _)) (byteCells_one _) (by unfold maxLen; omega) (by omega) (by have := hb3.size; simp; omega) ?_; intro v4 w4 ho4 hg4 _ hat4; have hx4 : Below w3.heap.size w3 w4 := ((Below.refl _ w3).alloc (Nat.le_refl _) _).grown hg4 (by simp) (fun k hk => by simp [Value.ownBlock] at hk; omega); have hb4 := grow_row (hb3.alloc hb3.size (.cells #[] 5)) (by have := hb3.size; simp; omega) (empty_row w3 hb3.size _) ho4 hg4 (by decide); obtain ⟨g4, c4, rfl, hl4, hb4⟩ := hb4; have hg4w : w3.heap.size ≤ g4 := (by simp [Value.ownBlock] at hat4; omega); rw [List.nil_append] at ho4)
    | (at_builtin; refine Lib.wpList_append_own_string _ rfl _ _ 31 9 rfl w.heap.size 5 i0 Tryz.underlying31 Tryz.underlying9 hi hz0 hz1 hz2 (.slice (some ⟨g4, 0, none⟩) (0 + 12) c4) (0 + 12) (Lib.byteCells (frameH n d.data.toList)) rfl ho4 d rfl (by unfold maxLen; omega) (by omega) hb4.size ?_; intro v5 w5 ho5 hg5 _; have hx5 : Below w3.heap.size w3 w5 := hx4.grown hg5 hx4.size (fun k hk => by simp [Value.ownBlock] at hk; omega); obtain ⟨g5, c5, rfl, hl5, hb5⟩ := grow_row hb4 hb4.size ho4 ho5 hg5 (by omega); rw [HSC.out] at ho5; have ho3 := row_turn ho3 (Turn.ofBelow (F := []) hx5 (Nat.le_refl _)) (fun _ _ => by simp); have hby : Byts w5 (.slice (some ⟨g5, 0, none⟩) (0 + 12 + d.size) c5) (frameH n d.data.toList ++ d.data.toList) := Byts.of_row (by rw [HFL.out]; exact (show 0 + 12 + d.size = 12 + d.size from by omega) ▸ ho5) (by rw [HFL.out]; omega))
    | (go_at_call 60; refine (lcrc_any hby (by rw [HFL.out]; omega)).mono ?_; rw [HCS.out]; rintro e w5' ⟨rfl, rfl⟩))
  go_ret
  have hfin : Lib.byteCells (frameL n d.data.toList) = Lib.byteCells (frameH n d.data.toList) ++ Lib.byteCells (beN 4 cs) ++ Lib.strCells d := by
    unfold frameL
    rw [HCS.out, byteCells_app, byteCells_app]; rfl
  rw [hfin]
  exact ⟨_, rfl, (show 4 + 8 + 4 + d.size = 16 + d.size from by omega) ▸ ho8, hb8⟩
end Go.Proofs.YtfdnpchbbngpjaaGreat
