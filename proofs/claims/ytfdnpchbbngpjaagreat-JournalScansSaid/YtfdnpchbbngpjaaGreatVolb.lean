/- A device: keep, stable. -/
import Derived.Test.YtfdnpchbbngpjaaGreatVola
namespace Go.Proofs.YtfdnpchbbngpjaaGreat
open Go.RowKit Go.Maps

theorem Vol.dur {w w' : World} {vb : Nat} {st : VS} {mb : Nat} {pv : Value} (h : Vol w vb st mb pv) {F : List Nat} (t : Turn F w w') (hF : ∀ i, i ∈ F → i = mb) {ds : List ByteArray} (hl : ds.length = st.dur.length) (hd : ∀ d, d ∈ ds → d.size = 256)
    (hm : w'.ownsMap (H := Unit) Tryz.prog 3 (plainElem Tryz.prog 9) mb st.dur.length (MD ds)) : Vol w' vb { st with dur := ds } mb pv := by
  have hvb : vb ∉ F := fun hi => h.mb_ne (hF _ hi).symm
  refine ⟨?_, ?_, ?_, ?_⟩
  · have := h.blk.turn t hvb
    show Blk w' vb _ #[.int .i64 (ds.length : Int), _, _, _, _, _]
    rw [hl]; exact this
  · show w'.ownsMap _ _ _ mb ds.length (MD ds)
    rw [hl]; exact hm
  · exact row_turn h.row t (fun g hg hi => by
      obtain rfl := hF g hi
      exact h.pv_mb hg)
  · exact ⟨by show 1 ≤ ds.length; rw [hl]; exact h.wf.pos, by show ds.length ≤ 65536; rw [hl]; exact h.wf.len, hd, by show ∀ p, p ∈ st.pend → p.1 < ds.length; rw [hl]; exact h.wf.sect, h.wf.data, h.wf.room, h.wf.lim⟩

set_option maxHeartbeats 400000 in
set_option maxRecDepth 100000 in
theorem keep_any (s : Nat) (d : ByteArray) {w : World} {vb : Nat} {st : VS} {mb : Nat} {pv : Value} (h : Vol w vb st mb pv) (hs : s < st.dur.length) (hd : d.size = 256) :
    Calls Tryz.prog 53 #[.pointer (some ⟨vb, 0, none⟩), .int .i64 (s : Int), .string d] w fun e w' => e = .returned (.tuple #[]) ∧ Vol w' vb { st with dur := st.dur.set s d } mb pv ∧ Turn [mb] w w' := by
  have hkey : keyOf Tryz.prog 3 (.int .i64 (s : Int)) = some (key s) := keyOf_int_mk Tryz.underlying3 (WalkArith.wf_i64 (by have := h.wf.len; omega))
  have hval : plainElem (H := Unit) Tryz.prog 9 (.string d) = some (litOf d, []) := plainElem_string Tryz.underlying9 (by rw [hd]; decide)
  have hszs : ∀ x, x ∈ st.dur.set s d → x.size = 256 := set_sizes h.wf.dur s hd
  have HK := Lib.hid hkey
  have HV := Lib.hid hval
  have HS := Lib.hid hszs
  have HD := Lib.hid hd
  have HN := Lib.hid hs
  have HL := Lib.hid (show st.dur.length < maxLen by have := h.wf.len; unfold maxLen; omega)
  clear hkey hval hszs hd hs
  by_cases e : d = zb
  · have et := seq_t e
    have E := Lib.hid e
    clear e
    go_enter Tryz.func53, Tryz.ntmps53
    go_wp2_with (first
      | (go_at_call 78; refine (zero_any _).mono ?_; rintro e w1 ⟨rfl, hb⟩; have h1 := h.below hb; have c1 := h1.blk.cell 1; simp at c1)
      | (at_delete; refine wpList_delete_own _ rfl _ _ 77 3 rfl 9 ckey Tryz.underlying77 _ mb _ _ rfl h1.map _ _ rfl HK.out ?_; intro w2 hown hturn))
    go_end0
    have t1 := (Turn.ofBelow (F := [mb]) hb (Nat.le_refl _)).grown hturn.grown (fun g hg => .inl (by simpa using hg.symm))
    have t2 := (Turn.refl [mb] w1).grown hturn.grown (fun g hg => .inl (by simpa using hg.symm))
    refine ⟨rfl, h1.dur t2 (by simp) (by simp) HS.out ?_, t1⟩
    rw [E.out, ← del_MD]
    exact hown
  · have et := seq_f e
    have E := Lib.hid e
    clear e
    go_enter Tryz.func53, Tryz.ntmps53
    go_wp2_with (first
      | (go_at_call 78; refine (zero_any _).mono ?_; rintro e w1 ⟨rfl, hb⟩; have h1 := h.below hb; have c1 := h1.blk.cell 1; simp at c1)
      | (at_mapUpdate; refine wpList_mapUpdate_in _ rfl _ _ _ 77 rfl 3 9 ckey Tryz.underlying77 _ mb _ _ rfl h1.map HL.out _ _ _ rfl rfl HK.out _ [] HV.out ?_; intro w2 hown hturn))
    go_end0
    have t1 := (Turn.ofBelow (F := [mb]) hb (Nat.le_refl _)).grown hturn.grown (fun g hg => .inl (by simpa using hg.symm))
    have t2 := (Turn.refl [mb] w1).grown hturn.grown (fun g hg => .inl (by simpa using hg.symm))
    refine ⟨rfl, h1.dur t2 (by simp) (by simp) HS.out ?_, t1⟩
    rw [← put_MD HN.out E.out]
    exact ownsMap_fits hown (by rw [put_MD HN.out E.out]; exact Nat.le_trans (size_MD _) (by simp))

set_option maxHeartbeats 400000 in
set_option maxRecDepth 100000 in
theorem stable_any (s : Nat) {w : World} {vb : Nat} {st : VS} {mb : Nat} {pv : Value} (h : Vol w vb st mb pv) (hs : s < st.dur.length) :
    Calls Tryz.prog 55 #[.pointer (some ⟨vb, 0, none⟩), .int .i64 (s : Int)] w fun e w' => e = .returned (.string (st.at_ s)) ∧ Below w.heap.size w w' := by
  have hkey : keyOf Tryz.prog 3 (.int .i64 (s : Int)) = some (key s) := keyOf_int_mk Tryz.underlying3 (WalkArith.wf_i64 (by have := h.wf.len; omega))
  have c1 := h.blk.cell 1
  simp at c1
  have hd : st.dur[s]? = some (st.at_ s) := by unfold VS.at_; rw [List.getD_eq_getElem?_getD, List.getElem?_eq_getElem hs]; rfl
  obtain ⟨v, ps, hrun, hR⟩ := h.map.look_ok ckey Tryz.underlying77 (z := .string ⟨#[]⟩) (by kernel_rfl) (plainElem_string Tryz.underlying9 (by decide)) hkey
  by_cases e : st.at_ s = zb
  · have hno : Maps.has (MD st.dur) (key s) = false := has_MD_no (fun d hd' => by rw [hd] at hd'; cases hd'; exact e)
    rw [hno] at hrun
    have E := Lib.hid e
    clear e hR hkey hd hno
    clear h
    go_enter Tryz.func55, Tryz.ntmps55
    go_wp2_with ((go_at_call 78; refine (zero_any _).mono ?_; rintro e w1 ⟨rfl, hb⟩))
    go_ret
    exact ⟨by rw [E.out]; rfl, hb⟩
  · have hyes : Maps.has (MD st.dur) (key s) = true := (has_MD_iff _ _).2 ⟨s, _, hd, e, rfl⟩
    rw [hyes] at hrun
    rw [at_MD hd e] at hR
    obtain rfl : v = .string (st.at_ s) := by
      unfold plainElem at hR
      rw [Tryz.underlying9] at hR
      cases v <;> simp at hR
      obtain ⟨_, hR, _⟩ := hR
      unfold litOf at hR
      injection hR with hR
      injection hR with hR
      rw [bytes_ext hR]
    clear e hR hkey hd hyes
    clear h
    go_enter Tryz.func55, Tryz.ntmps55
    go_wp2
    go_ret
    exact ⟨rfl, Below.refl _ _⟩
end Go.Proofs.YtfdnpchbbngpjaaGreat
