/-
  The draws of pictures that the laws begin with.
-/
import Derived.Test.YtpkcpkhanodnmaaImageDraw
namespace Go.Proofs.Ytpkcpkhanodnmaa
open Go Go.RowKit
def DImgQ (w : World) (e : Ending) (w' : World) : Prop := ∃ (v : Value) (ys : List (List Bool)), e = .returned v ∧ ys.length ≤ 17 ∧ total ys ≤ 200 ∧ St w w' [DOwn LSB DB v ys]
theorem DrawImageValid_any (a : Option Addr) (len cap : Nat) (w : World) (h : Byts w a len cap) : Calls Try.prog 23 #[.slice a len cap] w (DImgQ w) := by (go_enter Try.func23, Try.ntmps23; go_wp2_with fail; refine (open_s a len cap w h).mono ?_; rintro e w1 ⟨B, rfl, S1⟩; go_wp2_with fail; refine (image_s w B 0 [] 2 _ S1 (by omega) (by omega)).mono ?_; rintro e w2 ⟨v, ys, m', rfl, hl, ht, -, S2⟩; go_wp2_with fail; go_ret; exact ⟨v, ys, rfl, hl, ht, St.drop1 (Ms := [_]) S2⟩)
theorem DrawErodeImage_any (a : Option Addr) (len cap : Nat) (w : World) (h : Byts w a len cap) : Calls Try.prog 30 #[.slice a len cap] w (DImgQ w) := by (go_enter Try.func30, Try.ntmps30; go_wp2_with fail; refine (open_s a len cap w h).mono ?_; rintro e w1 ⟨B, rfl, S1⟩; go_wp2_with fail; refine (image_s w B 0 [] 12 _ S1 (by omega) (by omega)).mono ?_; rintro e w2 ⟨v, ys, m', rfl, hl, ht, -, S2⟩; go_wp2_with fail; go_ret; exact ⟨v, ys, rfl, hl, ht, St.drop1 (Ms := [_]) S2⟩)
theorem DrawLabelImage_any (a : Option Addr) (len cap : Nat) (w : World) (h : Byts w a len cap) : Calls Try.prog 32 #[.slice a len cap] w (DImgQ w) := by (go_enter Try.func32, Try.ntmps32; go_wp2_with fail; refine (open_s a len cap w h).mono ?_; rintro e w1 ⟨B, rfl, S1⟩; go_wp2_with fail; refine (image_s w B 0 [] 12 _ S1 (by omega) (by omega)).mono ?_; rintro e w2 ⟨v, ys, m', rfl, hl, ht, -, S2⟩; go_wp2_with fail; go_ret; exact ⟨v, ys, rfl, hl, ht, St.drop1 (Ms := [_]) S2⟩)
theorem DrawFindBlobs_any (a : Option Addr) (len cap : Nat) (w : World) (h : Byts w a len cap) : Calls Try.prog 36 #[.slice a len cap] w (DImgQ w) := by (go_enter Try.func36, Try.ntmps36; go_wp2_with fail; refine (open_s a len cap w h).mono ?_; rintro e w1 ⟨B, rfl, S1⟩; go_wp2_with fail; refine (image_s w B 0 [] 12 _ S1 (by omega) (by omega)).mono ?_; rintro e w2 ⟨v, ys, m', rfl, hl, ht, -, S2⟩; go_wp2_with fail; go_ret; exact ⟨v, ys, rfl, hl, ht, St.drop1 (Ms := [_]) S2⟩)
end Go.Proofs.Ytpkcpkhanodnmaa
