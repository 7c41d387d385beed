/- The law VolumeKeeps walked. -/
import Derived.Test.YtfhcecfddejcdaaVopn
import Derived.Test.YtfhcecfddejcdaaVdev
namespace Go.Proofs.Ytfhcecfddejcdaa
open Go.RowKit Go.Maps
theorem Byts.below {w w' : World} {v : Value} {l : List UInt8} (h : Byts w v l) (hb : Below w.heap.size w w') : Byts w' v l := h.turn (F := []) (Turn.ofBelow hb (Nat.le_refl _)) (fun _ _ => by simp)
theorem Byts.lt {w : World} {v : Value} {l : List UInt8} (h : Byts w v l) (hp : 0 < l.length) {i : Nat} (hi : v.ownBlock = some i) : i < w.heap.size := by
  obtain ⟨ao, cap, rfl, _, h3⟩ := h
  obtain ⟨b, off, rfl, hb, _⟩ := h3 hp
  simp [Value.ownBlock] at hi
  omega
set_option maxRecDepth 100000 in
theorem keeps_row {w : World} {v sv : Value} {l : List OpV} {cs : List UInt8} (h : Ops w v l) (hs : Byts w sv cs) : Calls Try.prog 9 #[v, sv] w (LawPost w) := by
  have H := Lib.hid h
  have HS := Lib.hid hs
  clear h hs
  go_enter Try.func9, Try.ntmps9
  go_wp2_with fail
  refine (play_any H.out).mono ?_
  rintro e w1 ⟨vb, db, rfl, hp⟩
  obtain ⟨F1, G, h1, _⟩ := hp
  generalize plays l 40 = q1 at h1
  go_wp2_with fail
  refine (known_any _).mono ?_
  rintro e w2 ⟨rfl, hb2⟩
  have h2 := Devs.one (h1.below hb2)
  clear h1 hb2
  go_wp2_with fail
  refine (crash_own (h2.v0)).mono ?_
  rintro e w3 ⟨rfl, hs3⟩
  obtain ⟨F3, h3⟩ := h2.s0 hs3
  clear h2 hs3
  go_wp2_with fail
  have h3' := h3.below ((Below.refl _ w3).alloc (Nat.le_refl _) (.cells #[.int .u8 1, .int .u8 1, .int .u8 1] 5))
  refine (start_any (h3'.v0) _ [1, 1, 1] ⟨_, 3, rfl, by simp, fun _ => ⟨w3.heap.size, 0, rfl, by simp, fun j hj => ?_⟩⟩ (fun i hi hm => ?_)).mono ?_
  · have hk := (Blk.new w3 5 #[.int .u8 1, .int .u8 1, .int .u8 1]).cell (0 + j)
    rw [hk]
    have : j = 0 ∨ j = 1 ∨ j = 2 := by simp at hj; omega
    rcases this with rfl | rfl | rfl <;> rfl
  · have h1 := h3.v0.lt i hm
    have h2 : w3.heap.size = i := by simpa [Value.ownBlock] using hi
    omega
  rintro e w4 ⟨rfl, hs4⟩
  obtain ⟨F4, h4⟩ := h3'.s0 hs4
  obtain ⟨ds, hds⟩ := started q1 [1, 1, 1]
  rw [hds] at h4
  clear h3 h3' hs4 hds
  have HB : Hid ((⟨ds, [], none, false⟩ : VS).barrier = (0, ⟨ds, [], none, false⟩)) := Lib.hid rfl
  go_wp2_with fail
  refine (barrier_any (h4.v0)).mono ?_
  rw [HB.out]
  rintro e w5 ⟨rfl, hs5⟩
  obtain ⟨F5, h5⟩ := h4.s0 hs5
  clear h4 hs5
  go_wp2_with fail
  refine (clone_own (h5.v0)).mono ?_
  rintro e w6 ⟨cb, F6, rfl, ho6⟩
  have h6 := h5.push ho6
  clear h5 ho6
  have HST : Hid ((⟨ds, [], none, false⟩ : VS).crash.start cs = ⟨ds, [], none, false⟩) := Lib.hid (still_start rfl rfl rfl cs)
  go_wp2_with fail
  refine (crash_own h6.v0).mono ?_
  rintro e w7 ⟨rfl, hs7⟩
  obtain ⟨F7, h7⟩ := h6.s0 hs7
  clear h6 hs7
  go_wp2_with fail
  refine (start_opt h7.v0 _ cs (HS.out.below h7.1) (fun hp i hi hm => ?_)).mono ?_
  · have k1 := HS.out.lt hp hi
    have k2 := h7.off0 i hm
    omega
  rw [HST.out]
  rintro e w8 ⟨rfl, hs8⟩
  obtain ⟨F8, h8⟩ := h7.s0 hs8
  clear h7 hs8
  go_wp2_with fail
  refine (equal_any h8.v0 h8.v1).mono ?_
  rintro e w9 ⟨rfl, hb9⟩
  have h9 := h8.below hb9
  clear h8 hb9
  go_wp2_with fail
  refine (equal_any h9.v1 h9.v0).mono ?_
  rintro e w10 ⟨rfl, hb10⟩
  have h10 := h9.below hb10
  clear h9 hb10
  go_wp2_with fail
  refine (pend_own h10.v0).mono ?_
  rintro e w11 ⟨ao, cap, rfl, _, hb11⟩
  have h11 := h10.below hb11
  clear h10 hb11
  go_wp2_with fail
  refine (down_own h11.v0).mono ?_
  rintro e w12 ⟨rfl, rfl⟩
  go_wp2
  go_ret
  exact ⟨rfl, h11.1⟩
end Go.Proofs.Ytfhcecfddejcdaa
