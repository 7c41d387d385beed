/- WriteByte and Split at this program's numbers. -/
import Derived.Test.YtdcdlmigagjbiaaDoorBld
import Derived.Test.YtdcdlmigagjbiaaDoorHshf
import Derived.Test.YtdcdlmigagjbiaaDoorHex
import Derived.Shelf.Strings.Split
namespace Go.Proofs.YtdcdlmigagjbiaaDoor
open Go.RowKit Go.Shelf
def ren167 : Go.Shelf.Ren := ⟨fun | 167 => 40 | 240 => 53 | 276 => 59 | n => n, fun | 0 => 0 | 3 => 3 | 4 => 4 | 5 => 5 | 9 => 9 | 20 => 20 | 37 => 76 | 70 => 75 | 72 => 78 | 75 => 80 | 80 => 85 | 164 => 98 | n => n, fun | n => n⟩
theorem lays167 : Go.Proofs.Lays.n167 Tryd.prog ren167 := {
  mixed := by kernel_rfl
  f167 := Tryd.func40.trans (congrArg some (by kernel_rfl))
  f240 := Tryd.func53.trans (congrArg some (by kernel_rfl))
  f276 := Tryd.func59.trans (congrArg some (by kernel_rfl))
  t0 := Tryd.underlying0
  a0 := Tryd.isAgg0
  z0 := Tryd.sizeOf0
  v0 := Tryd.zeroValue0
  t4 := Tryd.underlying4
  a4 := Tryd.isAgg4
  z4 := Tryd.sizeOf4
  v4 := Tryd.zeroValue4
  t5 := Tryd.underlying5
  a5 := Tryd.isAgg5
  z5 := Tryd.sizeOf5
  v5 := Tryd.zeroValue5
  t9 := Tryd.underlying9
  a9 := Tryd.isAgg9
  z9 := Tryd.sizeOf9
  v9 := Tryd.zeroValue9
  t20 := Tryd.underlying20
  a20 := Tryd.isAgg20
  z20 := Tryd.sizeOf20
  v20 := Tryd.zeroValue20
  t37 := Tryd.underlying76
  a37 := Tryd.isAgg76
  z37 := Tryd.sizeOf76
  v37 := Tryd.zeroValue76
  t70 := Tryd.underlying75
  a70 := Tryd.isAgg75
  z70 := Tryd.sizeOf75
  v70 := Tryd.zeroValue75
  t72 := Tryd.underlying78
  a72 := Tryd.isAgg78
  z72 := Tryd.sizeOf78
  v72 := Tryd.zeroValue78
  t75 := Tryd.underlying80
  a75 := Tryd.isAgg80
  z75 := Tryd.sizeOf80
  v75 := Tryd.zeroValue80
  t164 := Tryd.underlying98
  a164 := Tryd.isAgg98
  z164 := Tryd.sizeOf98
  v164 := Tryd.zeroValue98
}
theorem extra167 : Builder.Extra Tryd.prog ren167 := {
  sizeBuilder := by kernel_rfl
  liesBuilder := by kernel_rfl
  t5 := Tryd.underlying5
  a5 := Tryd.isAgg5
  z5 := Tryd.sizeOf5
  v5 := Tryd.zeroValue5
  infoByte := by kernel_rfl
  cellsByte := by kernel_rfl
  sizeByte := by kernel_rfl
  neB5 := by decide }

theorem writeByte_any (B b : Nat) (bs : List Value) (c : Int) (w : World) (h : Lib.IsBuilder 78 5 B b bs w) (hlen : bs.length + 1 ≤ 140737488355328) (hBw : B ≤ w.heap.size) :
    Calls Tryd.prog 40 #[.pointer (some ⟨b, 0, none⟩), .int .u8 c] w fun e w' => e = .returned .nilIface ∧ (Lib.BuilderAt 78 5 B b (.pointer (some ⟨b, 0, none⟩)) (bs ++ [.int .u8 c]) w' ∧ Below B w w') := Any.Builder_WriteByte lays167 extra167 B b bs c w h hlen hBw
/-- the pieces of a string at the hyphens -/
def piecesB (s : ByteArray) : List ByteArray := Lib.splitB ⟨#[45]⟩ 0 (Lib.countB s ⟨#[45]⟩) s
theorem countB_one (s : ByteArray) : Lib.countB s ⟨#[45]⟩ = s.data.toList.count 45 := Lib.count_one 45 _
theorem pieces_sp (s : ByteArray) : (piecesB s).map (·.data.toList) = sp 45 s.data.toList := by
  unfold piecesB
  rw [Lib.splitB_data, countB_one]
  exact splitK_sp 45 _ _ rfl
theorem pieces_len (s : ByteArray) : (piecesB s).length = Lib.countB s ⟨#[45]⟩ + 1 := Lib.splitB_all ⟨#[45]⟩ (by decide) 0 _ s rfl
set_option maxHeartbeats 1000000 in
theorem split_any (s : ByteArray) (w : World) (hs : s.size < 4294967281) :
    Calls Tryd.prog 56 #[.string s, .string ⟨#[45]⟩] w fun e w' =>
      e = .returned (.slice (some ⟨w.heap.size, 0, none⟩) (piecesB s).length (piecesB s).length) ∧ w' = w.alloc (.cells ((piecesB s).map Value.string).toArray 9) := by
  have hle := Lib.countB_le ⟨#[45]⟩ (by decide) s.size s (Nat.le_refl _)
  have hlen := pieces_len s
  have c := Any.strings_genSplit_core Tryd.lays221 (by kernel_rfl) s ⟨#[45]⟩ 0 (-1) (Lib.countB s ⟨#[45]⟩ + 1) w hs (by decide) (Nat.zero_le _)
    (fun x c hx => (Tryd.strings_Index_one x 45 _).mono (fun e w' h => ⟨by rw [h.1]; exact congrArg (fun n => Ending.returned (.int .i64 n)) (Lib.index_one _ _).symm, h.2⟩))
    ((Tryd.strings_Count_one s 45 w).mono (fun e w' h => ⟨by rw [h.1, countB_one]; rfl, h.2⟩)) (by decide) (by decide) (by rw [if_pos (by decide)]; omega)
  rw [Nat.add_sub_cancel] at c
  have e2 : Lib.cellsOf (piecesB s) (Lib.countB s ⟨#[45]⟩ + 1) = ((piecesB s).map Value.string).toArray := by rw [← hlen]; exact Lib.cellsOf_full _
  unfold piecesB at e2 hlen
  rw [e2] at c
  rw [← hlen] at c
  have C := Lib.hid c
  clear c e2 hlen hle
  go_enter Tryd.func56, Tryd.ntmps56
  go_wp2_with (go_at_call 60; refine C.out.mono ?_; rintro e w' ⟨rfl, rfl⟩)
  go_ret
  exact ⟨rfl, rfl⟩
theorem sclone_any (s : ByteArray) (w : World) (hlim : s.size ≤ 281474976710656) :
    Calls Tryd.prog 37 #[.string s] w fun e w' => e = .returned (.string s) ∧ Below w.heap.size w w' := by
  go_enter Tryd.func37, Tryd.ntmps37
  go_wp2_with (go_at_call 50; refine (liteClone_any s _ hlim).mono ?_; rintro e w' ⟨rfl, hb⟩)
  go_ret
  exact ⟨rfl, hb⟩
end Go.Proofs.YtdcdlmigagjbiaaDoor
