/-
  The draws of numbers for the laws on Gray codes: some number, nothing written that was there.
-/
import Derived.Test.YtbeihmhiofkjlaaBase
import Derived.Test.YtbeihmhiofkjlaaDrawn
namespace Go.Proofs.Ytbeihmhiofkjlaa
open Go Go.RowKit
/-- A draw of one number. -/
def DrawI (w : World) (e : Ending) (w' : World) : Prop := ∃ x : Int, e = .returned (.int .i64 x) ∧ w.grownBy w' none
set_option maxHeartbeats 1000000 in
theorem DrawGrayCode_any (a : Option Addr) (len cap : Nat) (w : World) (h : Byts w a len cap) :
    Calls Try.prog 22 #[.slice a len cap] w (DrawI w) := by
  have HB := Lib.hid h
  clear h
  go_enter Try.func22, Try.ntmps22
  go_upto_region 2 with (go_at_call 38; refine (open_any _ _ _ _ HB.out).mono ?_; rintro e w1 ⟨B, rfl, B_h, B_r, B_g⟩)
  refine wp_plain_list (shs (some B) [shVal _ (.pointer (some ⟨B, 0, none⟩)), shIn _ (0) (63), shVal _ (.pointer (some ⟨B, 0, none⟩)), shIn _ (0) (255), shIn _ (0) (65280), shVal _ (.pointer (some ⟨B, 0, none⟩)), shIn _ (0) (255), shIn _ (0) (65535), shRow _ 5 (-1) (65536), shRow _ 7 (0) (4), shVal _ (.pointer (some ⟨B, 0, none⟩)), shIn _ (0) (6), shPtr _ (0) (4), shIn _ (0) (4), shPtr _ (-1) (65536), shIn _ (-1) (65536), shIn _ (-1) (65536)])
    (fun k w' => Rd 49 w' B k ∧ w1.grownBy w' (some B)) (some B) (by kernel_rfl) (by kernel_rfl) (shs_st _ _) ⟨B_r, World.grownBy.refl _ _⟩ ?_ ?_
  · refine step_plain rfl (fun k a w' hk hJ hd hs K hK => ?_) ?_
    · have e3 : a.tmps[3]?.getD undef = .pointer (some ⟨B, 0, none⟩) := hs.at 3 (by kernel_rfl)
      clear hd hs
      have hkk : k < 17 := hk
      clear hk
      have HJ := Lib.hid hJ; clear hJ
      go_simp
      try simp (disch := omega) only [IntWalk.i64_in]
      exact hK.out _ _ rfl ⟨HJ.out.1.mono (by omega), HJ.out.2⟩ (World.grownBy.refl _ _)
    refine step_plain rfl (fun k a w' hk hJ hd hs K hK => ?_) ?_
    · have e6 : a.tmps[6]?.getD undef = .pointer (some ⟨B, 0, none⟩) := hs.get 0 6 (by kernel_rfl) (by kernel_rfl)
      clear hd hs
      have hkk : k < 17 := hk
      clear hk
      have HJ := Lib.hid hJ; clear hJ
      go_simp
      refine (pick_any B _ _ _ HJ.out.1 (by omega)).mono ?_
      rintro e w2 ⟨v, rfl, ⟨p1, p2, _⟩, hr, hg⟩
      exact hK.out _ _ ⟨v, rfl, by omega, by have := p2 (by omega); omega⟩ ⟨hr, gb_trans HJ.out.2 hg⟩ hg
    refine step_plain rfl (fun k a w' hk hJ hd hs K hK => ?_) ?_
    · have e3 : a.tmps[3]?.getD undef = .pointer (some ⟨B, 0, none⟩) := hs.at 3 (by kernel_rfl)
      clear hd hs
      have hkk : k < 17 := hk
      clear hk
      have HJ := Lib.hid hJ; clear hJ
      go_simp
      try simp (disch := omega) only [IntWalk.i64_in]
      exact hK.out _ _ rfl ⟨HJ.out.1.mono (by omega), HJ.out.2⟩ (World.grownBy.refl _ _)
    refine step_plain rfl (fun k a w' hk hJ hd hs K hK => ?_) ?_
    · have e8 : a.tmps[8]?.getD undef = .pointer (some ⟨B, 0, none⟩) := hs.get 2 8 (by kernel_rfl) (by kernel_rfl)
      clear hd hs
      have hkk : k < 17 := hk
      clear hk
      have HJ := Lib.hid hJ; clear hJ
      go_simp
      refine (pick_any B _ _ _ HJ.out.1 (by omega)).mono ?_
      rintro e w2 ⟨v, rfl, ⟨p1, p2, _⟩, hr, hg⟩
      exact hK.out _ _ ⟨v, rfl, by omega, by have := p2 (by omega); omega⟩ ⟨hr, gb_trans HJ.out.2 hg⟩ hg
    refine step_plain rfl (fun k a w' hk hJ hd hs K hK => ?_) ?_
    · obtain ⟨x9, e9, l9, u9⟩ : ∃ x : Int, a.tmps[9]?.getD undef = .int .i64 x ∧ (0) ≤ x ∧ x ≤ (255) := hs.get 3 9 (by kernel_rfl) (by kernel_rfl)
      clear hd hs
      have hkk : k < 17 := hk
      clear hk
      have HJ := Lib.hid hJ; clear hJ
      go_simp
      try simp (disch := omega) only [IntWalk.i64_in]
      exact hK.out _ _ ⟨_, rfl, by omega, by omega⟩ ⟨HJ.out.1.mono (by omega), HJ.out.2⟩ (World.grownBy.refl _ _)
    refine step_plain rfl (fun k a w' hk hJ hd hs K hK => ?_) ?_
    · have e3 : a.tmps[3]?.getD undef = .pointer (some ⟨B, 0, none⟩) := hs.at 3 (by kernel_rfl)
      clear hd hs
      have hkk : k < 17 := hk
      clear hk
      have HJ := Lib.hid hJ; clear hJ
      go_simp
      try simp (disch := omega) only [IntWalk.i64_in]
      exact hK.out _ _ rfl ⟨HJ.out.1.mono (by omega), HJ.out.2⟩ (World.grownBy.refl _ _)
    refine step_plain rfl (fun k a w' hk hJ hd hs K hK => ?_) ?_
    · have e11 : a.tmps[11]?.getD undef = .pointer (some ⟨B, 0, none⟩) := hs.get 5 11 (by kernel_rfl) (by kernel_rfl)
      clear hd hs
      have hkk : k < 17 := hk
      clear hk
      have HJ := Lib.hid hJ; clear hJ
      go_simp
      refine (pick_any B _ _ _ HJ.out.1 (by omega)).mono ?_
      rintro e w2 ⟨v, rfl, ⟨p1, p2, _⟩, hr, hg⟩
      exact hK.out _ _ ⟨v, rfl, by omega, by have := p2 (by omega); omega⟩ ⟨hr, gb_trans HJ.out.2 hg⟩ hg
    refine step_plain rfl (fun k a w' hk hJ hd hs K hK => ?_) ?_
    · obtain ⟨x10, e10, l10, u10⟩ : ∃ x : Int, a.tmps[10]?.getD undef = .int .i64 x ∧ (0) ≤ x ∧ x ≤ (65280) := hs.get 4 10 (by kernel_rfl) (by kernel_rfl)
      obtain ⟨x12, e12, l12, u12⟩ : ∃ x : Int, a.tmps[12]?.getD undef = .int .i64 x ∧ (0) ≤ x ∧ x ≤ (255) := hs.get 6 12 (by kernel_rfl) (by kernel_rfl)
      clear hd hs
      have hkk : k < 17 := hk
      clear hk
      have HJ := Lib.hid hJ; clear hJ
      go_simp
      try simp (disch := omega) only [IntWalk.i64_in]
      exact hK.out _ _ ⟨_, rfl, by omega, by omega⟩ ⟨HJ.out.1.mono (by omega), HJ.out.2⟩ (World.grownBy.refl _ _)
    refine step_plain rfl (fun k a w' hk hJ hd hs K hK => ?_) ?_
    · obtain ⟨x7, e7, l7, u7⟩ : ∃ x : Int, a.tmps[7]?.getD undef = .int .i64 x ∧ (0) ≤ x ∧ x ≤ (63) := hs.get 1 7 (by kernel_rfl) (by kernel_rfl)
      obtain ⟨x13, e13, l13, u13⟩ : ∃ x : Int, a.tmps[13]?.getD undef = .int .i64 x ∧ (0) ≤ x ∧ x ≤ (65535) := hs.get 7 13 (by kernel_rfl) (by kernel_rfl)
      clear hd hs
      have hkk : k < 17 := hk
      clear hk
      have HJ := Lib.hid hJ; clear hJ
      have hlt := HJ.out.1.lt
      go_simp
      refine hK.out _ _ ⟨w'.heap.size, rfl, fun e => absurd (Option.some.inj e) (by omega), fun j hj => ?_⟩ ⟨(HJ.out.1.alloc _).mono (by omega), gb_alloc HJ.out.2 _⟩ (World.grownBy_alloc _ _ _)
      rcases (show j = 0 ∨ j = 1 ∨ j = 2 ∨ j = 3 ∨ j = 4 from by omega) with rfl | rfl | rfl | rfl | rfl
      · exact ⟨x7, by simp [go_sem], by omega, by omega⟩
      · exact ⟨x13, by simp [go_sem], by omega, by omega⟩
      · exact ⟨(65535), by simp [go_sem], by omega, by omega⟩
      · exact ⟨(65536), by simp [go_sem], by omega, by omega⟩
      · exact ⟨(-1), by simp [go_sem], by omega, by omega⟩
    refine step_plain rfl (fun k a w' hk hJ hd hs K hK => ?_) ?_
    · clear hd hs
      have hkk : k < 17 := hk
      clear hk
      have HJ := Lib.hid hJ; clear hJ
      have hlt := HJ.out.1.lt
      go_simp
      refine hK.out _ _ ⟨w'.heap.size, rfl, fun e => absurd (Option.some.inj e) (by omega), fun j hj => ?_⟩ ⟨(HJ.out.1.alloc _).mono (by omega), gb_alloc HJ.out.2 _⟩ (World.grownBy_alloc _ _ _)
      rcases (show j = 0 ∨ j = 1 ∨ j = 2 ∨ j = 3 ∨ j = 4 ∨ j = 5 ∨ j = 6 from by omega) with rfl | rfl | rfl | rfl | rfl | rfl | rfl
      · exact ⟨(0), by simp [go_sem], by omega, by omega⟩
      · exact ⟨(0), by simp [go_sem], by omega, by omega⟩
      · exact ⟨(1), by simp [go_sem], by omega, by omega⟩
      · exact ⟨(1), by simp [go_sem], by omega, by omega⟩
      · exact ⟨(2), by simp [go_sem], by omega, by omega⟩
      · exact ⟨(3), by simp [go_sem], by omega, by omega⟩
      · exact ⟨(4), by simp [go_sem], by omega, by omega⟩
    refine step_plain rfl (fun k a w' hk hJ hd hs K hK => ?_) ?_
    · have e3 : a.tmps[3]?.getD undef = .pointer (some ⟨B, 0, none⟩) := hs.at 3 (by kernel_rfl)
      clear hd hs
      have hkk : k < 17 := hk
      clear hk
      have HJ := Lib.hid hJ; clear hJ
      go_simp
      try simp (disch := omega) only [IntWalk.i64_in]
      exact hK.out _ _ rfl ⟨HJ.out.1.mono (by omega), HJ.out.2⟩ (World.grownBy.refl _ _)
    refine step_plain rfl (fun k a w' hk hJ hd hs K hK => ?_) ?_
    · have e16 : a.tmps[16]?.getD undef = .pointer (some ⟨B, 0, none⟩) := hs.get 10 16 (by kernel_rfl) (by kernel_rfl)
      clear hd hs
      have hkk : k < 17 := hk
      clear hk
      have HJ := Lib.hid hJ; clear hJ
      go_simp
      refine (pick_any B _ _ _ HJ.out.1 (by omega)).mono ?_
      rintro e w2 ⟨v, rfl, ⟨p1, p2, _⟩, hr, hg⟩
      exact hK.out _ _ ⟨v, rfl, by omega, by have := p2 (by omega); omega⟩ ⟨hr, gb_trans HJ.out.2 hg⟩ hg
    refine step_plain rfl (fun k a w' hk hJ hd hs K hK => ?_) ?_
    · obtain ⟨g15, e15, n15, c15⟩ : ∃ g : Nat, a.tmps[15]?.getD undef = .slice (some ⟨g, 0, none⟩) 7 7 ∧ (some B) ≠ some g ∧ ∀ j, j < 7 → ∃ x : Int, w'.cell? ⟨g, j, none⟩ = some (.int .i64 x) ∧ (0) ≤ x ∧ x ≤ (4) := hs.get 9 15 (by kernel_rfl) (by kernel_rfl)
      obtain ⟨x17, e17, l17, u17⟩ : ∃ x : Int, a.tmps[17]?.getD undef = .int .i64 x ∧ (0) ≤ x ∧ x ≤ (6) := hs.get 11 17 (by kernel_rfl) (by kernel_rfl)
      clear hd hs
      have hkk : k < 17 := hk
      clear hk
      obtain ⟨m, rfl⟩ := Int.eq_ofNat_of_zero_le (show 0 ≤ x17 by omega)
      obtain ⟨y, hy, hy1, hy2⟩ := c15 m (by omega)
      clear c15
      have hbd : (m : Int) < 7 := by omega
      have HJ := Lib.hid hJ; clear hJ
      go_simp
      exact hK.out _ _ ⟨g15, m, y, rfl, n15, hy, hy1, hy2⟩ ⟨HJ.out.1.mono (by omega), HJ.out.2⟩ (World.grownBy.refl _ _)
    refine step_plain rfl (fun k a w' hk hJ hd hs K hK => ?_) ?_
    · obtain ⟨g18, o18, x18, e18, n18, c18, l18, u18⟩ : ∃ (g o : Nat) (x : Int), a.tmps[18]?.getD undef = .pointer (some ⟨g, o, none⟩) ∧ (some B) ≠ some g ∧ w'.cell? ⟨g, o, none⟩ = some (.int .i64 x) ∧ (0) ≤ x ∧ x ≤ (4) := hs.get 12 18 (by kernel_rfl) (by kernel_rfl)
      clear hd hs
      have hkk : k < 17 := hk
      clear hk
      have HJ := Lib.hid hJ; clear hJ
      go_simp
      try simp (disch := omega) only [IntWalk.i64_in]
      exact hK.out _ _ ⟨_, rfl, by omega, by omega⟩ ⟨HJ.out.1.mono (by omega), HJ.out.2⟩ (World.grownBy.refl _ _)
    refine step_plain rfl (fun k a w' hk hJ hd hs K hK => ?_) ?_
    · obtain ⟨g14, e14, n14, c14⟩ : ∃ g : Nat, a.tmps[14]?.getD undef = .slice (some ⟨g, 0, none⟩) 5 5 ∧ (some B) ≠ some g ∧ ∀ j, j < 5 → ∃ x : Int, w'.cell? ⟨g, j, none⟩ = some (.int .i64 x) ∧ (-1) ≤ x ∧ x ≤ (65536) := hs.get 8 14 (by kernel_rfl) (by kernel_rfl)
      obtain ⟨x19, e19, l19, u19⟩ : ∃ x : Int, a.tmps[19]?.getD undef = .int .i64 x ∧ (0) ≤ x ∧ x ≤ (4) := hs.get 13 19 (by kernel_rfl) (by kernel_rfl)
      clear hd hs
      have hkk : k < 17 := hk
      clear hk
      obtain ⟨m, rfl⟩ := Int.eq_ofNat_of_zero_le (show 0 ≤ x19 by omega)
      obtain ⟨y, hy, hy1, hy2⟩ := c14 m (by omega)
      clear c14
      have hbd : (m : Int) < 5 := by omega
      have HJ := Lib.hid hJ; clear hJ
      go_simp
      exact hK.out _ _ ⟨g14, m, y, rfl, n14, hy, hy1, hy2⟩ ⟨HJ.out.1.mono (by omega), HJ.out.2⟩ (World.grownBy.refl _ _)
    refine step_plain rfl (fun k a w' hk hJ hd hs K hK => ?_) ?_
    · obtain ⟨g20, o20, x20, e20, n20, c20, l20, u20⟩ : ∃ (g o : Nat) (x : Int), a.tmps[20]?.getD undef = .pointer (some ⟨g, o, none⟩) ∧ (some B) ≠ some g ∧ w'.cell? ⟨g, o, none⟩ = some (.int .i64 x) ∧ (-1) ≤ x ∧ x ≤ (65536) := hs.get 14 20 (by kernel_rfl) (by kernel_rfl)
      clear hd hs
      have hkk : k < 17 := hk
      clear hk
      have HJ := Lib.hid hJ; clear hJ
      go_simp
      try simp (disch := omega) only [IntWalk.i64_in]
      exact hK.out _ _ ⟨_, rfl, by omega, by omega⟩ ⟨HJ.out.1.mono (by omega), HJ.out.2⟩ (World.grownBy.refl _ _)
    refine step_plain rfl (fun k a w' hk hJ hd hs K hK => ?_) ?_
    · obtain ⟨x21, e21, l21, u21⟩ : ∃ x : Int, a.tmps[21]?.getD undef = .int .i64 x ∧ (-1) ≤ x ∧ x ≤ (65536) := hs.get 15 21 (by kernel_rfl) (by kernel_rfl)
      clear hd hs
      have hkk : k < 17 := hk
      clear hk
      have HJ := Lib.hid hJ; clear hJ
      go_simp
      try simp (disch := omega) only [IntWalk.i64_in]
      exact hK.out _ _ ⟨_, rfl, by omega, by omega⟩ ⟨HJ.out.1.mono (by omega), HJ.out.2⟩ (World.grownBy.refl _ _)
    exact step_nil
  · intro a' w' hJ hA hold hsz hdf
    rw [act_out (n := 22) hsz hdf]
    clear hsz hdf
    have f0 : a'.tmps.getD 0 undef = .slice a len cap := hold 0 (by kernel_rfl)
    obtain ⟨y2, f2, fl2, fu2⟩ : ∃ x : Int, a'.tmps.getD 2 undef = .int .i64 x ∧ (-1) ≤ x ∧ x ≤ (65536) := hA 16 (by decide)
    have f3 : a'.tmps.getD 3 undef = .pointer (some ⟨B, 0, none⟩) := hold 3 (by kernel_rfl)
    clear hold hA
    simp only [show List.range 22 = [0, 1, 2, 3, 4, 5, 6, 7, 8, 9, 10, 11, 12, 13, 14, 15, 16, 17, 18, 19, 20, 21] from rfl, List.map_cons, List.map_nil, f0, f2, f3]
    clear f0 f2 f3
    go_wp2
    go_ret
    exact ⟨_, rfl, gb_new (gb_trans (gb_any B_g (some B)) hJ.2) (by simpa using B_h)⟩
end Go.Proofs.Ytbeihmhiofkjlaa
