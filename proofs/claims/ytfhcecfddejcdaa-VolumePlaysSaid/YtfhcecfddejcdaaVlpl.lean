/- The law VolumePlays walked. -/
import Derived.Test.YtfhcecfddejcdaaVopn
namespace Go.Proofs.Ytfhcecfddejcdaa
open Go.RowKit Go.Maps
set_option maxRecDepth 100000 in
theorem plays_row {w : World} {v : Value} {l : List OpV} (h : Ops w v l) : Calls Try.prog 6 #[v] w (LawPost w) := by
  have H := Lib.hid h
  clear h
  go_enter Try.func6, Try.ntmps6
  go_wp2_with fail
  refine (play_any H.out).mono ?_
  rintro e w1 ⟨vb, db, rfl, hp⟩
  have hb1 : Below w.heap.size w w1 := by
    obtain ⟨F, G, k, _⟩ := hp
    exact k.2.1
  clear hp
  go_wp2_with fail
  refine (known_any _).mono ?_
  rintro e w2 ⟨rfl, hb2⟩
  go_wp2
  go_ret
  exact ⟨rfl, hb1.trans (hb2.mono hb1.size)⟩
end Go.Proofs.Ytfhcecfddejcdaa
