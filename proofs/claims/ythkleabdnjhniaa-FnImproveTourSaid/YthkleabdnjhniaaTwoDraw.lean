/-
  The draws of stops with an order.
-/
import Derived.Test.YthkleabdnjhniaaOrderDraw
import Derived.Test.YthkleabdnjhniaaStopsDraw
namespace Go.Proofs.Ythkleabdnjhniaa
open Go Go.RowKit
def DTwo2Q (w : World) (e : Ending) (w' : World) : Prop := ∃ (v : Value) (xs : List Pt) (u : Value) (os : List Int), e = .returned (.tuple #[v, u]) ∧ xs.length ≤ 20 ∧ os.length ≤ 20 ∧ St w w' [Own LI u os, Own LPt v xs]
theorem DrawImproveTour_any (a : Option Addr) (len cap : Nat) (w : World) (h : Byts w a len cap) : Calls Try.prog 38 #[.slice a len cap] w (DTwo2Q w) := by
  go_enter Try.func38, Try.ntmps38
  go_wp2_with fail
  refine (open_s a len cap w h).mono ?_
  rintro e w1 ⟨B, rfl, S1⟩
  go_wp2_with fail
  refine (stops_s w B 0 [] 8 14 _ S1 (by omega) (by omega) (by omega) (by omega)).mono ?_
  rintro e w2 ⟨v, xs, m', rfl, hl, hm', S2⟩
  obtain ⟨va, vn, vc, rfl, -, -, HVN, -⟩ := LPt_own S2
  have hvn : vn ≤ 20 := by have := HVN.out; omega
  go_wp2_with fail
  refine (orderD_s w B m' [Own LPt (.slice va vn vc) xs] vn 14 _ S2.swap (by omega) (by omega) hvn).mono ?_
  rintro e w3 ⟨u, os, m2, rfl, hol, -, S3⟩
  go_wp2_with fail
  exact bodyPost_ret (v := .tuple #[.slice va vn vc, u]) (by simp [results, Try.results38, go_sem]) rfl ⟨_, xs, _, os, rfl, hl, by omega, St.tail (St.swap S3)⟩
end Go.Proofs.Ythkleabdnjhniaa
