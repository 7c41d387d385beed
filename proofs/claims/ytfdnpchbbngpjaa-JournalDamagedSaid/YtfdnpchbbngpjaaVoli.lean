/- Survive. -/
import Derived.Test.YtfdnpchbbngpjaaVolh
import Derived.Lib.SmallJoins
import Derived.Lib.Strings
namespace Go.Proofs.Ytfdnpchbbngpjaa
open Go.RowKit Go.Maps

theorem cut_join (a b : ByteArray) (n : Nat) : (b.extract 0 n ++ a.extract n a.size) = ⟨(b.data.toList.take n ++ a.data.toList.drop n).toArray⟩ := by
  apply bytes_ext
  rw [Joins.data_append, Lib.extract_data, Lib.extract_data]
  simp only [List.drop_zero, Nat.sub_zero]
  rw [List.take_of_length_le (l := a.data.toList.drop n) (by simp)]
theorem surv_new {a b : ByteArray} (c q : Nat) (hm : c % 4 = 2) (hq : c / 4 % 3 = q) : surv a b c = b.extract 0 (64 * (q + 1)) ++ a.extract (64 * (q + 1)) a.size := by
  rw [cut_join]
  unfold surv
  simp only
  rw [if_neg (by omega), if_neg (by omega), if_pos hm, hq]
theorem surv_old {a b : ByteArray} (c q : Nat) (hm : c % 4 = 3) (hq : c / 4 % 3 = q) : surv a b c = a.extract 0 (64 * (q + 1)) ++ b.extract (64 * (q + 1)) b.size := by
  rw [cut_join]
  unfold surv
  simp only
  rw [if_neg (by omega), if_neg (by omega), if_neg (by omega), hq]

end Go.Proofs.Ytfdnpchbbngpjaa
