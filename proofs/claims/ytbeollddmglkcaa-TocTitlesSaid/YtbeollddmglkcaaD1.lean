/- The walks of the laws of chapter 38. -/
import Derived.Test.YtbeollddmglkcaaA10
import Derived.Test.YtbeollddmglkcaaC4
namespace Go.Proofs.Ytbeollddmglkcaa
open Go.RowKit

set_option maxHeartbeats 1000000 in
theorem law_titles (s : ByteArray) (w : World) (hs : s.size ≤ maxLen) :
    Calls Try.prog 8 #[.string s] w fun e w' => e = .returned (.bool true) ∧ Below w.heap.size w w' := by
  unfold maxLen at hs
  have hz : (s.extract 0 (min ((s.size : Nat) : Int) 300).toNat).size ≤ 300 := by rw [ByteArray.size_extract]; omega
  go_enter Try.func8, Try.ntmps8
  go_wp2_with fail
  generalize s.extract 0 (min ((s.size : Nat) : Int) 300).toNat = t at *
  have hl : (mkS (titleB (byts t))).size ≤ 2400 := by rw [mkS_size]; have := titleB_len (byts t); rw [byts_len] at this; omega
  have hid : mkS (titleB (byts (mkS (titleB (byts t))))) = mkS (titleB (byts t)) := by rw [byts_mkS _ (titleB_bytes t), titleB_idem]
  have ht2 := fun W => title_any (mkS (titleB (byts t))) W (by omega)
  rw [hid] at ht2
  have HT2 := Lib.hid ht2
  have hmt := fun W => mtitle_any t W (by omega)
  have HMT := Lib.hid hmt
  clear hid ht2 hmt
  refine (title_any t w (by omega)).mono ?_
  rintro e w1 ⟨rfl, hb1⟩
  generalize mkS (titleB (byts t)) = a at *
  go_wp2_with (go_at_call 11; refine (known_any w1).mono ?_; rintro e w2 ⟨rfl, hb2⟩)
  refine (HMT.out w2).mono ?_
  rintro e w3 ⟨rfl, hb3⟩
  go_wp2_with (go_at_call 24; refine (HT2.out _).mono ?_; rintro e w4 ⟨rfl, hb4⟩)
  go_ret
  exact ⟨rfl, below_trans' hb1 hb1.size (below_trans' hb2 hb2.size (below_trans' hb3 hb3.size hb4))⟩
end Go.Proofs.Ytbeollddmglkcaa
