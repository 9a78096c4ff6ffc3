/-
  FnEncoderAngle: for every code the law on the angle of an encoder returns true; nothing that was there is written. No condition.
-/
import Derived.Test.YtbeihmhiofkjlaaAngle
import Derived.Test.YtbeihmhiofkjlaaRows
import Derived.ProofKit
import Derived.OpenShut
import Derived.ShutString
import Derived.ChangeOld
namespace Go.Proofs.Ytbeihmhiofkjlaa
open Go Go.RowKit
set_option linter.unusedVariables false
/-- A draw of two numbers, the second of them in 0..10001. -/
def DrawII (w : World) (e : Ending) (w' : World) : Prop := ∃ x y : Int, e = .returned (.tuple #[.int .i64 x, .int .i64 y]) ∧ (0 ≤ y ∧ y ≤ 10001) ∧ w.grownBy w' none
set_option maxHeartbeats 2000000 in
theorem DrawEncoderAngle_any (a : Option Addr) (len cap : Nat) (w : World) (h : Byts w a len cap) :
    Calls Try.prog 20 #[.slice a len cap] w (DrawII w) := by
  have HB := Lib.hid h
  clear h
  go_enter Try.func20, Try.ntmps20
  go_wp2_with (go_at_call 38; refine (open_any _ _ _ _ HB.out).mono ?_; rintro e w1 ⟨B, rfl, B_h, B_r, B_g⟩)
  refine wp_drawn_list (shs (some B) [shVal _ (.pointer (some ⟨B, 0, none⟩)), shIn _ (0) (255), shInt _, shInt _, shVal _ (.pointer (some ⟨B, 0, none⟩)), shIn _ (0) (13), shInt _, shInt _, shInt _, shVal _ (.pointer (some ⟨B, 0, none⟩)), shIn _ (0) (255), shIn _ (1) (256), shRow _ 4 (0) (10001), shRow _ 6 (0) (3), shVal _ (.pointer (some ⟨B, 0, none⟩)), shIn _ (0) (5), shPtr _ (0) (3), shIn _ (0) (3), shPtr _ (0) (10001), shIn _ (0) (10001), shInt _, shIn _ (0) (10001)])
    (fun k w' => Rd 49 w' B k ∧ w1.grownBy w' (some B)) (some B) (by kernel_rfl) (by kernel_rfl) (shs_st _ _) ⟨B_r, gb_drew (World.grownBy.refl _ _)⟩ ?_ ?_
  · refine step_plain rfl (fun k a w' hk hJ hd hs K hK => ?_) ?_
    · have e4 : a.tmps[4]?.getD undef = .pointer (some ⟨B, 0, none⟩) := hs.at 4 (by kernel_rfl)
      clear hd hs
      have hkk : k < 22 := hk
      clear hk
      have HJ := Lib.hid hJ; clear hJ
      go_simp
      try simp (disch := omega) only [IntWalk.i64_in]
      exact hK.out _ _ rfl ⟨HJ.out.1.mono (by omega), HJ.out.2⟩ (World.grownBy.refl _ _)
    refine step_plain rfl (fun k a w' hk hJ hd hs K hK => ?_) ?_
    · have e7 : a.tmps[7]?.getD undef = .pointer (some ⟨B, 0, none⟩) := hs.get 0 7 (by kernel_rfl) (by kernel_rfl)
      clear hd hs
      have hkk : k < 22 := hk
      clear hk
      have HJ := Lib.hid hJ; clear hJ
      go_simp
      refine (pick_any B _ _ _ HJ.out.1 (by omega)).mono ?_
      rintro e w2 ⟨v, rfl, ⟨p1, p2, _⟩, hr, hg⟩
      exact hK.out _ _ ⟨v, rfl, by omega, by have := p2 (by omega); omega⟩ ⟨hr, gb_trans HJ.out.2 hg⟩ hg
    refine step_plain rfl (fun k a w' hk hJ hd hs K hK => ?_) ?_
    · obtain ⟨x8, e8, l8, u8⟩ : ∃ x : Int, a.tmps[8]?.getD undef = .int .i64 x ∧ (0) ≤ x ∧ x ≤ (255) := hs.get 1 8 (by kernel_rfl) (by kernel_rfl)
      clear hd hs
      have hkk : k < 22 := hk
      clear hk
      have HJ := Lib.hid hJ; clear hJ
      go_simp
      try simp (disch := omega) only [IntWalk.i64_in]
      exact hK.out _ _ ⟨_, rfl⟩ ⟨HJ.out.1.mono (by omega), HJ.out.2⟩ (World.grownBy.refl _ _)
    refine step_plain rfl (fun k a w' hk hJ hd hs K hK => ?_) ?_
    · obtain ⟨x9, e9⟩ : ∃ x : Int, a.tmps[9]?.getD undef = .int .i64 x := hs.get 2 9 (by kernel_rfl) (by kernel_rfl)
      clear hd hs
      have hkk : k < 22 := hk
      clear hk
      have HJ := Lib.hid hJ; clear hJ
      go_simp
      try simp (disch := omega) only [IntWalk.i64_in]
      exact hK.out _ _ ⟨_, rfl⟩ ⟨HJ.out.1.mono (by omega), HJ.out.2⟩ (World.grownBy.refl _ _)
    refine step_plain rfl (fun k a w' hk hJ hd hs K hK => ?_) ?_
    · have e4 : a.tmps[4]?.getD undef = .pointer (some ⟨B, 0, none⟩) := hs.at 4 (by kernel_rfl)
      clear hd hs
      have hkk : k < 22 := hk
      clear hk
      have HJ := Lib.hid hJ; clear hJ
      go_simp
      try simp (disch := omega) only [IntWalk.i64_in]
      exact hK.out _ _ rfl ⟨HJ.out.1.mono (by omega), HJ.out.2⟩ (World.grownBy.refl _ _)
    refine step_plain rfl (fun k a w' hk hJ hd hs K hK => ?_) ?_
    · have e11 : a.tmps[11]?.getD undef = .pointer (some ⟨B, 0, none⟩) := hs.get 4 11 (by kernel_rfl) (by kernel_rfl)
      clear hd hs
      have hkk : k < 22 := hk
      clear hk
      have HJ := Lib.hid hJ; clear hJ
      go_simp
      refine (pick_any B _ _ _ HJ.out.1 (by omega)).mono ?_
      rintro e w2 ⟨v, rfl, ⟨p1, p2, _⟩, hr, hg⟩
      exact hK.out _ _ ⟨v, rfl, by omega, by have := p2 (by omega); omega⟩ ⟨hr, gb_trans HJ.out.2 hg⟩ hg
    refine step_plain rfl (fun k a w' hk hJ hd hs K hK => ?_) ?_
    · obtain ⟨x12, e12, l12, u12⟩ : ∃ x : Int, a.tmps[12]?.getD undef = .int .i64 x ∧ (0) ≤ x ∧ x ≤ (13) := hs.get 5 12 (by kernel_rfl) (by kernel_rfl)
      clear hd hs
      have hkk : k < 22 := hk
      clear hk
      have HJ := Lib.hid hJ; clear hJ
      go_simp
      try simp (disch := omega) only [IntWalk.i64_in]
      exact hK.out _ _ ⟨_, rfl⟩ ⟨HJ.out.1.mono (by omega), HJ.out.2⟩ (World.grownBy.refl _ _)
    refine step_plain rfl (fun k a w' hk hJ hd hs K hK => ?_) ?_
    · obtain ⟨x13, e13⟩ : ∃ x : Int, a.tmps[13]?.getD undef = .int .i64 x := hs.get 6 13 (by kernel_rfl) (by kernel_rfl)
      clear hd hs
      have hkk : k < 22 := hk
      clear hk
      have HJ := Lib.hid hJ; clear hJ
      go_simp
      try simp (disch := omega) only [IntWalk.i64_in]
      exact hK.out _ _ ⟨_, rfl⟩ ⟨HJ.out.1.mono (by omega), HJ.out.2⟩ (World.grownBy.refl _ _)
    refine step_plain rfl (fun k a w' hk hJ hd hs K hK => ?_) ?_
    · obtain ⟨x10, e10⟩ : ∃ x : Int, a.tmps[10]?.getD undef = .int .i64 x := hs.get 3 10 (by kernel_rfl) (by kernel_rfl)
      obtain ⟨x14, e14⟩ : ∃ x : Int, a.tmps[14]?.getD undef = .int .i64 x := hs.get 7 14 (by kernel_rfl) (by kernel_rfl)
      clear hd hs
      have hkk : k < 22 := hk
      clear hk
      have HJ := Lib.hid hJ; clear hJ
      go_simp
      try simp (disch := omega) only [IntWalk.i64_in]
      exact hK.out _ _ ⟨_, rfl⟩ ⟨HJ.out.1.mono (by omega), HJ.out.2⟩ (World.grownBy.refl _ _)
    refine step_plain rfl (fun k a w' hk hJ hd hs K hK => ?_) ?_
    · have e4 : a.tmps[4]?.getD undef = .pointer (some ⟨B, 0, none⟩) := hs.at 4 (by kernel_rfl)
      clear hd hs
      have hkk : k < 22 := hk
      clear hk
      have HJ := Lib.hid hJ; clear hJ
      go_simp
      try simp (disch := omega) only [IntWalk.i64_in]
      exact hK.out _ _ rfl ⟨HJ.out.1.mono (by omega), HJ.out.2⟩ (World.grownBy.refl _ _)
    refine step_plain rfl (fun k a w' hk hJ hd hs K hK => ?_) ?_
    · have e16 : a.tmps[16]?.getD undef = .pointer (some ⟨B, 0, none⟩) := hs.get 9 16 (by kernel_rfl) (by kernel_rfl)
      clear hd hs
      have hkk : k < 22 := hk
      clear hk
      have HJ := Lib.hid hJ; clear hJ
      go_simp
      refine (pick_any B _ _ _ HJ.out.1 (by omega)).mono ?_
      rintro e w2 ⟨v, rfl, ⟨p1, p2, _⟩, hr, hg⟩
      exact hK.out _ _ ⟨v, rfl, by omega, by have := p2 (by omega); omega⟩ ⟨hr, gb_trans HJ.out.2 hg⟩ hg
    refine step_plain rfl (fun k a w' hk hJ hd hs K hK => ?_) ?_
    · obtain ⟨x17, e17, l17, u17⟩ : ∃ x : Int, a.tmps[17]?.getD undef = .int .i64 x ∧ (0) ≤ x ∧ x ≤ (255) := hs.get 10 17 (by kernel_rfl) (by kernel_rfl)
      clear hd hs
      have hkk : k < 22 := hk
      clear hk
      have HJ := Lib.hid hJ; clear hJ
      go_simp
      try simp (disch := omega) only [IntWalk.i64_in]
      exact hK.out _ _ ⟨_, rfl, by omega, by omega⟩ ⟨HJ.out.1.mono (by omega), HJ.out.2⟩ (World.grownBy.refl _ _)
    refine step_plain rfl (fun k a w' hk hJ hd hs K hK => ?_) ?_
    · obtain ⟨x18, e18, l18, u18⟩ : ∃ x : Int, a.tmps[18]?.getD undef = .int .i64 x ∧ (1) ≤ x ∧ x ≤ (256) := hs.get 11 18 (by kernel_rfl) (by kernel_rfl)
      clear hd hs
      have hkk : k < 22 := hk
      clear hk
      have HJ := Lib.hid hJ; clear hJ
      have hlt := HJ.out.1.lt
      go_simp
      refine hK.out _ _ ⟨w'.heap.size, rfl, fun e => absurd (Option.some.inj e) (by omega), fun j hj => ?_⟩ ⟨(HJ.out.1.alloc _).mono (by omega), gb_alloc HJ.out.2 _⟩ (World.grownBy_alloc _ _ _)
      rcases (show j = 0 ∨ j = 1 ∨ j = 2 ∨ j = 3 from by omega) with rfl | rfl | rfl | rfl
      · exact ⟨x18, by simp [go_sem], by omega, by omega⟩
      · exact ⟨(360), by simp [go_sem], by omega, by omega⟩
      · exact ⟨(0), by simp [go_sem], by omega, by omega⟩
      · exact ⟨(10001), by simp [go_sem], by omega, by omega⟩
    refine step_plain rfl (fun k a w' hk hJ hd hs K hK => ?_) ?_
    · clear hd hs
      have hkk : k < 22 := hk
      clear hk
      have HJ := Lib.hid hJ; clear hJ
      have hlt := HJ.out.1.lt
      go_simp
      refine hK.out _ _ ⟨w'.heap.size, rfl, fun e => absurd (Option.some.inj e) (by omega), fun j hj => ?_⟩ ⟨(HJ.out.1.alloc _).mono (by omega), gb_alloc HJ.out.2 _⟩ (World.grownBy_alloc _ _ _)
      rcases (show j = 0 ∨ j = 1 ∨ j = 2 ∨ j = 3 ∨ j = 4 ∨ j = 5 from by omega) with rfl | rfl | rfl | rfl | rfl | rfl
      · exact ⟨(0), by simp [go_sem], by omega, by omega⟩
      · exact ⟨(0), by simp [go_sem], by omega, by omega⟩
      · exact ⟨(0), by simp [go_sem], by omega, by omega⟩
      · exact ⟨(1), by simp [go_sem], by omega, by omega⟩
      · exact ⟨(2), by simp [go_sem], by omega, by omega⟩
      · exact ⟨(3), by simp [go_sem], by omega, by omega⟩
    refine step_plain rfl (fun k a w' hk hJ hd hs K hK => ?_) ?_
    · have e4 : a.tmps[4]?.getD undef = .pointer (some ⟨B, 0, none⟩) := hs.at 4 (by kernel_rfl)
      clear hd hs
      have hkk : k < 22 := hk
      clear hk
      have HJ := Lib.hid hJ; clear hJ
      go_simp
      try simp (disch := omega) only [IntWalk.i64_in]
      exact hK.out _ _ rfl ⟨HJ.out.1.mono (by omega), HJ.out.2⟩ (World.grownBy.refl _ _)
    refine step_plain rfl (fun k a w' hk hJ hd hs K hK => ?_) ?_
    · have e21 : a.tmps[21]?.getD undef = .pointer (some ⟨B, 0, none⟩) := hs.get 14 21 (by kernel_rfl) (by kernel_rfl)
      clear hd hs
      have hkk : k < 22 := hk
      clear hk
      have HJ := Lib.hid hJ; clear hJ
      go_simp
      refine (pick_any B _ _ _ HJ.out.1 (by omega)).mono ?_
      rintro e w2 ⟨v, rfl, ⟨p1, p2, _⟩, hr, hg⟩
      exact hK.out _ _ ⟨v, rfl, by omega, by have := p2 (by omega); omega⟩ ⟨hr, gb_trans HJ.out.2 hg⟩ hg
    refine step_plain rfl (fun k a w' hk hJ hd hs K hK => ?_) ?_
    · obtain ⟨g20, e20, n20, c20⟩ : ∃ g : Nat, a.tmps[20]?.getD undef = .slice (some ⟨g, 0, none⟩) 6 6 ∧ (some B) ≠ some g ∧ ∀ j, j < 6 → ∃ x : Int, w'.cell? ⟨g, j, none⟩ = some (.int .i64 x) ∧ (0) ≤ x ∧ x ≤ (3) := hs.get 13 20 (by kernel_rfl) (by kernel_rfl)
      obtain ⟨x22, e22, l22, u22⟩ : ∃ x : Int, a.tmps[22]?.getD undef = .int .i64 x ∧ (0) ≤ x ∧ x ≤ (5) := hs.get 15 22 (by kernel_rfl) (by kernel_rfl)
      clear hd hs
      have hkk : k < 22 := hk
      clear hk
      obtain ⟨m, rfl⟩ := Int.eq_ofNat_of_zero_le (show 0 ≤ x22 by omega)
      obtain ⟨y, hy, hy1, hy2⟩ := c20 m (by omega)
      clear c20
      have hbd : (m : Int) < 6 := by omega
      have HJ := Lib.hid hJ; clear hJ
      go_simp
      exact hK.out _ _ ⟨g20, m, y, rfl, n20, hy, hy1, hy2⟩ ⟨HJ.out.1.mono (by omega), HJ.out.2⟩ (World.grownBy.refl _ _)
    refine step_plain rfl (fun k a w' hk hJ hd hs K hK => ?_) ?_
    · obtain ⟨g23, o23, x23, e23, n23, c23, l23, u23⟩ : ∃ (g o : Nat) (x : Int), a.tmps[23]?.getD undef = .pointer (some ⟨g, o, none⟩) ∧ (some B) ≠ some g ∧ w'.cell? ⟨g, o, none⟩ = some (.int .i64 x) ∧ (0) ≤ x ∧ x ≤ (3) := hs.get 16 23 (by kernel_rfl) (by kernel_rfl)
      clear hd hs
      have hkk : k < 22 := hk
      clear hk
      have HJ := Lib.hid hJ; clear hJ
      go_simp
      try simp (disch := omega) only [IntWalk.i64_in]
      exact hK.out _ _ ⟨_, rfl, by omega, by omega⟩ ⟨HJ.out.1.mono (by omega), HJ.out.2⟩ (World.grownBy.refl _ _)
    refine step_plain rfl (fun k a w' hk hJ hd hs K hK => ?_) ?_
    · obtain ⟨g19, e19, n19, c19⟩ : ∃ g : Nat, a.tmps[19]?.getD undef = .slice (some ⟨g, 0, none⟩) 4 4 ∧ (some B) ≠ some g ∧ ∀ j, j < 4 → ∃ x : Int, w'.cell? ⟨g, j, none⟩ = some (.int .i64 x) ∧ (0) ≤ x ∧ x ≤ (10001) := hs.get 12 19 (by kernel_rfl) (by kernel_rfl)
      obtain ⟨x24, e24, l24, u24⟩ : ∃ x : Int, a.tmps[24]?.getD undef = .int .i64 x ∧ (0) ≤ x ∧ x ≤ (3) := hs.get 17 24 (by kernel_rfl) (by kernel_rfl)
      clear hd hs
      have hkk : k < 22 := hk
      clear hk
      obtain ⟨m, rfl⟩ := Int.eq_ofNat_of_zero_le (show 0 ≤ x24 by omega)
      obtain ⟨y, hy, hy1, hy2⟩ := c19 m (by omega)
      clear c19
      have hbd : (m : Int) < 4 := by omega
      have HJ := Lib.hid hJ; clear hJ
      go_simp
      exact hK.out _ _ ⟨g19, m, y, rfl, n19, hy, hy1, hy2⟩ ⟨HJ.out.1.mono (by omega), HJ.out.2⟩ (World.grownBy.refl _ _)
    refine step_plain rfl (fun k a w' hk hJ hd hs K hK => ?_) ?_
    · obtain ⟨g25, o25, x25, e25, n25, c25, l25, u25⟩ : ∃ (g o : Nat) (x : Int), a.tmps[25]?.getD undef = .pointer (some ⟨g, o, none⟩) ∧ (some B) ≠ some g ∧ w'.cell? ⟨g, o, none⟩ = some (.int .i64 x) ∧ (0) ≤ x ∧ x ≤ (10001) := hs.get 18 25 (by kernel_rfl) (by kernel_rfl)
      clear hd hs
      have hkk : k < 22 := hk
      clear hk
      have HJ := Lib.hid hJ; clear hJ
      go_simp
      try simp (disch := omega) only [IntWalk.i64_in]
      exact hK.out _ _ ⟨_, rfl, by omega, by omega⟩ ⟨HJ.out.1.mono (by omega), HJ.out.2⟩ (World.grownBy.refl _ _)
    refine step_plain rfl (fun k a w' hk hJ hd hs K hK => ?_) ?_
    · obtain ⟨x15, e15⟩ : ∃ x : Int, a.tmps[15]?.getD undef = .int .i64 x := hs.get 8 15 (by kernel_rfl) (by kernel_rfl)
      clear hd hs
      have hkk : k < 22 := hk
      clear hk
      have HJ := Lib.hid hJ; clear hJ
      go_simp
      try simp (disch := omega) only [IntWalk.i64_in]
      exact hK.out _ _ ⟨_, rfl⟩ ⟨HJ.out.1.mono (by omega), HJ.out.2⟩ (World.grownBy.refl _ _)
    refine step_plain rfl (fun k a w' hk hJ hd hs K hK => ?_) ?_
    · obtain ⟨x26, e26, l26, u26⟩ : ∃ x : Int, a.tmps[26]?.getD undef = .int .i64 x ∧ (0) ≤ x ∧ x ≤ (10001) := hs.get 19 26 (by kernel_rfl) (by kernel_rfl)
      clear hd hs
      have hkk : k < 22 := hk
      clear hk
      have HJ := Lib.hid hJ; clear hJ
      go_simp
      try simp (disch := omega) only [IntWalk.i64_in]
      exact hK.out _ _ ⟨_, rfl, by omega, by omega⟩ ⟨HJ.out.1.mono (by omega), HJ.out.2⟩ (World.grownBy.refl _ _)
    exact step_nil
  · intro a' w' hJ hA hold hsz hdf
    rw [act_out (n := 27) hsz hdf]
    clear hsz hdf
    have f0 : a'.tmps.getD 0 undef = .slice a len cap := hold 0 (by kernel_rfl)
    obtain ⟨y2, f2⟩ : ∃ x : Int, a'.tmps.getD 2 undef = .int .i64 x := hA 20 (by decide)
    obtain ⟨y3, f3, fl3, fu3⟩ : ∃ x : Int, a'.tmps.getD 3 undef = .int .i64 x ∧ (0) ≤ x ∧ x ≤ (10001) := hA 21 (by decide)
    have f4 : a'.tmps.getD 4 undef = .pointer (some ⟨B, 0, none⟩) := hold 4 (by kernel_rfl)
    clear hold hA
    simp only [show List.range 27 = [0, 1, 2, 3, 4, 5, 6, 7, 8, 9, 10, 11, 12, 13, 14, 15, 16, 17, 18, 19, 20, 21, 22, 23, 24, 25, 26] from rfl, List.map_cons, List.map_nil, f0, f2, f3, f4]
    clear f0 f2 f3 f4
    go_wp2
    go_ret2
    exact ⟨_, _, rfl, by constructor <;> omega, gb_new (gb_trans (gb_any B_g (some B)) hJ.2) (by simpa using B_h)⟩
theorem angle_rng {c s : Int} (h : (-1000000 ≤ c ∧ c ≤ 1000000) ∧ (1 ≤ s ∧ s ≤ 10000)) : 0 ≤ angleI c s ∧ angleI c s < 360 := by
  rw [angle_yes h]
  have h1 : 0 ≤ c % s := Int.emod_nonneg _ (by omega)
  have h2 : c % s < s := Int.emod_lt_of_pos _ (by omega)
  exact ⟨Int.ediv_nonneg (by omega) (by omega), Int.ediv_lt_of_lt_mul (by omega) (by omega)⟩
theorem angle_more (c s : Int) (h : (-1000000 ≤ c ∧ c ≤ 1000000) ∧ (1 ≤ s ∧ s ≤ 10000)) (h2 : 0 ≤ angleI (c + s) s) : angleI (c + s) s = angleI c s := by
  by_cases hx : (-1000000 ≤ c + s ∧ c + s ≤ 1000000) ∧ (1 ≤ s ∧ s ≤ 10000)
  · rw [angle_yes h, angle_yes hx, Int.add_emod_right]
  · rw [angle_no hx] at h2; omega
set_option maxHeartbeats 1000000 in
theorem law_FnEncoderAngle (a : Option Addr) (len cap : Nat) (w : World) (hw : Byts w a len cap) :
    Calls Try.prog 6 #[.slice a len cap] w fun e w' => e = .returned (.bool true) ∧ Below w.heap.size w w' := by
  have HB := Lib.hid hw; have hm : len ≤ 9223372036854775807 := (by have := hw.1; have := hw.2.1; unfold maxLen at this; omega); clear hw; by_cases hl : 1048576 < len; (go_enter Try.func6, Try.ntmps6; go_wp2_with fail; go_ret; exact ⟨rfl, Below.refl _ _⟩)
  go_enter Try.func6, Try.ntmps6
  go_wp2_with (go_at_call 20; refine (DrawEncoderAngle_any _ _ _ _ HB.out).mono ?_; rintro e w1 ⟨x, y, rfl, ⟨hy1, hy2⟩, hg⟩)
  by_cases hx : (-1000000 ≤ x ∧ x ≤ 1000000) ∧ (1 ≤ y ∧ y ≤ 10000)
  · have hr := angle_rng hx
    obtain ⟨r1, r2⟩ := hr
    have h0 : angleI 0 y = 0 := by rw [angle_yes ⟨by omega, hx.2⟩]; simp
    have hx1 := hx.1.1
    have hx2 := hx.1.2
    by_cases hmore : angleI (x + y) y < 0
    · clear hx
      refine (i_EncoderAngle _ _ _).mono ?_
      rintro e w' ⟨rfl, rfl⟩
      go_wp2_with (first | (go_at_call 17; refine (i_EncoderAngle _ _ _).mono ?_; rintro e w' ⟨rfl, rfl⟩) | (go_at_call 16; refine (s_EncoderAngle _ _ _).mono ?_; rintro e w' ⟨rfl, rfl⟩))
      all_goals (go_ret; exact ⟨rfl, gb_below hg⟩)
    · have hm := angle_more x y hx (by omega)
      clear hx
      refine (i_EncoderAngle _ _ _).mono ?_
      rintro e w' ⟨rfl, rfl⟩
      go_wp2_with (first | (go_at_call 17; refine (i_EncoderAngle _ _ _).mono ?_; rintro e w' ⟨rfl, rfl⟩) | (go_at_call 16; refine (s_EncoderAngle _ _ _).mono ?_; rintro e w' ⟨rfl, rfl⟩))
      all_goals (go_ret; exact ⟨rfl, gb_below hg⟩)
  · have hc := angle_no hx
    clear hx
    refine (i_EncoderAngle _ _ _).mono ?_
    rintro e w' ⟨rfl, rfl⟩
    go_wp2_with (first | (go_at_call 17; refine (i_EncoderAngle _ _ _).mono ?_; rintro e w' ⟨rfl, rfl⟩) | (go_at_call 16; refine (s_EncoderAngle _ _ _).mono ?_; rintro e w' ⟨rfl, rfl⟩) | (go_at_call 21; refine (alive_any _).mono ?_; rintro e w' ⟨rfl, rfl⟩))
    all_goals (go_ret; exact ⟨rfl, gb_below hg⟩)
end Go.Proofs.Ytbeihmhiofkjlaa
namespace Go.Proofs.Ytbeihmhiofkjlaa.fnEncoderAngleDone
open Go Go.ChangeShapes Go.WideShapes Go.ChangeAt Go.RowKit Go.Proofs.Ytbeihmhiofkjlaa
set_option linter.unusedVariables false
theorem own : ownKnob Try.prog.godebug = none := by kernel_rfl
theorem laidOut : laidOutB Try.prog = true := by kernel_rfl
set_option maxRecDepth 100000 in
theorem lifted (os : Os) (started : os.Started) (H : Type) (enc : TypeId × Value → H) :
    ReturnsInHanded {} Try.checked os 6 .any (Rows.fnEncoderAngleSpec.pre6 enc Try.prog Try.f6 Rows.fnEncoderAngleRow.domain false) (Rows.fnEncoderAngleSpec.post enc Try.prog Try.f6 false true false false) := by
  refine returnsInHanded_of_change (C := Try.checked) own started (by kernel_rfl) Try.func6
    (ChangeSpec.witness6 (enc := enc) (C := Try.checked) false ⟨#[], #[.slice none 0 0], []⟩ 8 (by kernel_rfl) (by kernel_rfl) (by kernel_rfl) (by kernel_rfl)) ?_
  intro W base args ds gs before hval0 hW hcnd _
  have hval : ∀ (j : Nat) t v, Try.f6.params[j]? = some t → args[j]? = some v → Value.okWide Try.prog W .any base t v := hval0
  have hW' := hW
  obtain ⟨p, q, hA0, hV, rfl, hfz, hnd⟩ := hW
  have hA : DataW.TrodAll enc Try.prog W 0 (fun _ => true) true Try.f6.params.toList args.toList ds p := hA0
  rw [Try.params6] at hA hval
  obtain ⟨v0, vs0, d0, ds0, p0, q0, hargs, rfl, rfl, h0, r0⟩ := trodAll_cons hA
  obtain ⟨rfl, rfl, rfl⟩ := trodAll_nil r0
  obtain rfl : args = #[v0] := by cases args; simp_all
  obtain ⟨rfl, rfl⟩ := trodVars_none hV
  obtain ⟨a0, len0, cap0, rfl⟩ := okWide_slice Try.underlying26 (hval 0 26 v0 rfl rfl)
  have k0 := h0
  have lt0 : ∀ x ∈ p0, x.block < W.heap.size := by obtain ⟨m, hm⟩ := k0; exact DataW.trod_lt m _ _ _ hm
  have w0 : Byts W a0 len0 cap0 := by
    obtain ⟨fuel, hf⟩ := h0
    rcases open_ints Try.underlying26 Try.underlying5 (by kernel_rfl) hf with ⟨hcs, _⟩ | ⟨x, l, c, zs, hcs, _, hl, hm, hz, _, hcell, hwz⟩
    · simp [Value.cells] at hcs
      obtain ⟨rfl, rfl, rfl⟩ := hcs
      exact byts_nil W
    · simp [Value.cells] at hcs
      obtain ⟨rfl, rfl, rfl⟩ := hcs
      exact byts_of hl hm (by simpa using hz) hcell hwz
  clear hA0 hval0
  refine (law_FnEncoderAngle a0 len0 cap0 W w0).mono fun e W' ⟨he, bel⟩ => ?_
  subst he
  exact ⟨_, rfl, _, _, _, [], _, [], hW', trodAll_mk1 (shut_bool Try.underlying4 _), (trodAll_cons_mk (Below.trod laidOut (by kernel_rfl) (of_decide_eq_true (by kernel_rfl)) k0 bel lt0) trodAll_mk0), rfl, bel.frame _, fun h => by cases h⟩
theorem over : Rows.fnEncoderAngleRow.holds Try.pinned (OpenSpec.ofChange Rows.fnEncoderAngleSpec) :=
  OpenClaim.holds_of_wide 6 Try.f6 rfl rfl rfl rfl rfl rfl rfl ⟨rfl, rfl, rfl, rfl, rfl⟩ rfl rfl rfl rfl rfl (by kernel_rfl) Try.func6 (by kernel_rfl)
    (of_decide_eq_true (by kernel_rfl)) (by unfold Func.isWrapper; first | (rw [if_pos (by decide +kernel)]; kernel_rfl) | (rw [if_neg (by decide +kernel)]; exact ⟨rfl, rfl⟩))
    (fun os started H enc _ => lifted os started H enc)
theorem proved : Rows.FnEncoderAngleSaid := over
#print axioms proved
end Go.Proofs.Ytbeihmhiofkjlaa.fnEncoderAngleDone
