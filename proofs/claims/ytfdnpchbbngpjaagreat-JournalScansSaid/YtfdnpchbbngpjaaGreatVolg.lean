/- A device: Read, Write whole; Pending. -/
import Derived.Test.YtfdnpchbbngpjaaGreatVolf
import Derived.Test.YtfdnpchbbngpjaaGreatMem
namespace Go.Proofs.YtfdnpchbbngpjaaGreat
open Go.RowKit Go.Maps

theorem read_down (s : Int) {w : World} {vb : Nat} {st : VS} {mb : Nat} {pv : Value} (h : Vol w vb st mb pv) (hdn : st.down = true) :
    Calls Tryz.prog 37 #[.pointer (some ⟨vb, 0, none⟩), .int .i64 s] w fun e w' => e = .returned (.tuple #[.string ⟨#[]⟩, .int .i64 36]) ∧ Below w.heap.size w w' := by
  have c5 := h.blk.cell 5
  have lt := h.blk.lt
  simp [hdn] at c5
  have hbl : ∀ o1 o2 o3 : Obj, Below w.heap.size w (((w.alloc o1).alloc o2).alloc o3) := fun o1 o2 o3 => (((Below.refl _ w).alloc (Nat.le_refl _) _).alloc (by simp) _).alloc (by simp; omega) _
  have a5 : ∀ o1 o2 o3 : Obj, (((w.alloc o1).alloc o2).alloc o3).cell? ⟨vb, 5, none⟩ = some (.bool true) := fun o1 o2 o3 => ((hbl o1 o2 o3).cell (p := ⟨vb, 5, none⟩) lt).trans c5
  have HB := Lib.hid hbl
  clear hbl c5 h hdn
  go_enter Tryz.func37, Tryz.ntmps37
  go_wp2
  exact bodyPost_ret (v := .tuple #[.string ⟨#[]⟩, .int .i64 36]) (by simp [results, Tryz.f37, go_sem]) rfl ⟨rfl, HB.out _ _ _⟩
theorem read_range (s : Int) {w : World} {vb : Nat} {st : VS} {mb : Nat} {pv : Value} (h : Vol w vb st mb pv) (hdn : st.down = false) (hr : inR s st.dur.length = false) :
    Calls Tryz.prog 37 #[.pointer (some ⟨vb, 0, none⟩), .int .i64 s] w fun e w' => e = .returned (.tuple #[.string ⟨#[]⟩, .int .i64 2]) ∧ Below w.heap.size w w' := by
  have c5 := h.blk.cell 5
  have lt := h.blk.lt
  simp [hdn] at c5
  have hbl : ∀ o1 o2 o3 : Obj, Below w.heap.size w (((w.alloc o1).alloc o2).alloc o3) := fun o1 o2 o3 => (((Below.refl _ w).alloc (Nat.le_refl _) _).alloc (by simp) _).alloc (by simp; omega) _
  have a5 : ∀ o1 o2 o3 : Obj, (((w.alloc o1).alloc o2).alloc o3).cell? ⟨vb, 5, none⟩ = some (.bool false) := fun o1 o2 o3 => ((hbl o1 o2 o3).cell (p := ⟨vb, 5, none⟩) lt).trans c5
  have HB := Lib.hid hbl
  have HR := Lib.hid hr
  clear hbl c5 hdn hr
  go_enter Tryz.func37, Tryz.ntmps37
  go_wp2_with ((go_at_call 70; refine (has_any _ (h.below (HB.out _ _ _))).mono ?_; rw [HR.out]; rintro e w1 ⟨rfl, rfl⟩))
  exact bodyPost_ret (v := .tuple #[.string ⟨#[]⟩, .int .i64 2]) (by simp [results, Tryz.f37, go_sem]) rfl ⟨rfl, HB.out _ _ _⟩
/-- Read, whole -/
theorem read_any (s : Int) {w : World} {vb : Nat} {st : VS} {F : List Nat} (h : VolF w vb st F) :
    Calls Tryz.prog 37 #[.pointer (some ⟨vb, 0, none⟩), .int .i64 s] w fun e w' => e = .returned (.tuple #[.string (st.read s).1, .int .i64 ((st.read s).2 : Int)]) ∧ Below w.heap.size w w' := by
  obtain ⟨mb, pv, h, rfl⟩ := h
  by_cases hd : st.down = true
  · rw [show st.read s = (⟨#[]⟩, 36) from by unfold VS.read; rw [if_pos hd]]
    exact read_down s h hd
  · have hd' : st.down = false := by simpa using hd
    by_cases hr : inR s st.dur.length = false
    · rw [show st.read s = (⟨#[]⟩, 2) from by unfold VS.read; rw [if_neg hd, if_pos hr]]
      exact read_range s h hd' hr
    · have hr' : inR s st.dur.length = true := by simpa using hr
      have hi := inR_iff.1 hr'
      obtain ⟨n, rfl⟩ := Int.eq_ofNat_of_zero_le hi.1
      rw [show st.read (n : Int) = (st.content n, 0) from by unfold VS.read; rw [if_neg hd, if_neg hr, Int.toNat_natCast]]
      exact read_ok n h hd' (by omega)
/-- Write, whole -/
theorem write_any (s : Int) (d : ByteArray) {w : World} {vb : Nat} {st : VS} {F : List Nat} (h : VolF w vb st F) :
    Calls Tryz.prog 38 #[.pointer (some ⟨vb, 0, none⟩), .int .i64 s, .string d] w fun e w' => e = .returned (.int .i64 ((st.write s d).1 : Int)) ∧ Step F w w' vb (st.write s d).2 := by
  obtain ⟨mb, pv, h, rfl⟩ := h
  have same : ∀ w', w = w' → Step (foot vb mb pv) w w' vb st := fun w' e => by subst e; exact ⟨_, ⟨mb, pv, h, rfl⟩, Turn.refl _ _, fun i hi => .inl hi⟩
  by_cases hd : st.down = true
  · rw [show st.write s d = (36, st) from by unfold VS.write; rw [if_pos hd]]
    exact (write_down s d h hd).mono fun e w' ⟨he, hw⟩ => ⟨he, same w' hw⟩
  · have hd' : st.down = false := by simpa using hd
    by_cases hr : inR s st.dur.length = false
    · rw [show st.write s d = (2, st) from by unfold VS.write; rw [if_neg hd, if_pos hr]]
      exact (write_range s d h hd' hr).mono fun e w' ⟨he, hw⟩ => ⟨he, same w' hw⟩
    · have hr' : inR s st.dur.length = true := by simpa using hr
      by_cases hs : d.size ≠ 256
      · rw [show st.write s d = (10, st) from by unfold VS.write; rw [if_neg hd, if_neg hr, if_pos hs]]
        exact (write_long s d h hd' hr' hs).mono fun e w' ⟨he, hw⟩ => ⟨he, same w' hw⟩
      · have hs' : d.size = 256 := by omega
        by_cases hf : 4096 ≤ st.pend.length
        · rw [show st.write s d = (37, st) from by unfold VS.write; rw [if_neg hd, if_neg hr, if_neg hs, if_pos hf]]
          exact (write_full s d h hd' hr' hs' hf).mono fun e w' ⟨he, hw⟩ => ⟨he, same w' hw⟩
        · have hi := inR_iff.1 hr'
          obtain ⟨n, rfl⟩ := Int.eq_ofNat_of_zero_le hi.1
          rw [show st.write (n : Int) d = (crashNo ({ st with pend := st.pend ++ [(n, d)] } : VS).tick.1, ({ st with pend := st.pend ++ [(n, d)] } : VS).tick.2) from by unfold VS.write; rw [if_neg hd, if_neg hr, if_neg hs, if_neg hf, Int.toNat_natCast]; rfl]
          exact write_ok n d h hd' (by omega) hs' (by omega)
end Go.Proofs.YtfdnpchbbngpjaaGreat
