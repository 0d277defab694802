/- The walk of CipherInverse. -/
import Derived.Test.YtmdfpknhfkgfoaaCip
namespace Go.Proofs.Ytmdfpknhfkgfoaa
open Go.RowKit

set_option maxRecDepth 100000 in
set_option maxHeartbeats 800000 in
theorem cipherInverse_walk (s t : ByteArray) (hs : s.size ≤ maxLen) (ht : t.size ≤ maxLen) (w : World) :
    Calls Try.prog 4 #[.string s, .string t] w (TrueBelow w) := by
  go_enter Try.func4, Try.ntmps4
  go_wp2_with (fail)
  refine (sane2_any _).mono ?_
  rintro e w1 ⟨rfl, hb1⟩
  go_wp2_with (fail)
  refine (bytes_str s 16 _ hs (by decide) (by decide)).mono ?_
  rintro e w2 ⟨k, hk, rfl, hb2⟩
  go_wp2_with (fail)
  refine (bytes_str t 8 _ ht (by decide) (by decide)).mono ?_
  rintro e w3 ⟨b, hb, rfl, hb3⟩
  have B3 := below_then (below_then hb1 hb2) hb3
  clear hb1 hb2 hb3
  go_wp2_with (fail)
  refine (enc_some k b _ hk hb).mono ?_
  rintro e w4 ⟨a, ha, ea, rfl, hb4⟩
  go_wp2_with (fail)
  refine (dec_some k a _ hk ha).mono ?_
  rintro e w5 ⟨c, hc, ec, rfl, hb5⟩
  obtain rfl : c = b := bytes_ext (by rw [ec.out, ea.out, dec_enc _ _ ((len_data b).trans hb.out)])
  have B5 := below_then (below_then B3 hb4) hb5
  clear B3 hb4 hb5 ec
  go_wp2_with (fail)
  refine (dec_some k c _ hk hb).mono ?_
  rintro e w6 ⟨d, hd, ed, rfl, hb6⟩
  go_wp2_with (fail)
  refine (enc_some k d _ hk hd).mono ?_
  rintro e w7 ⟨f, hf, ef, rfl, hb7⟩
  obtain rfl : f = c := bytes_ext (by rw [ef.out, ed.out, enc_dec _ _ ((len_data c).trans hb.out)])
  have B7 := below_then (below_then B5 hb6) hb7
  clear B5 hb6 hb7 ef
  have h1 : ((a.size : Int) == 8) = true := by rw [ha.out]; rfl
  have h2 : ((d.size : Int) == 8) = true := by rw [hd.out]; rfl
  go_wp2
  go_ret
  exact ⟨rfl, B7⟩

end Go.Proofs.Ytmdfpknhfkgfoaa
