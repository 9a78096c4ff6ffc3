/-
  The draw of counts for SpeedEstimates: at most 17 counts, a window that is 0, 1, 2, 3 or 51.
-/
import Derived.Test.YtbeihmhiofkjlaaInts
import Derived.Test.YtbeihmhiofkjlaaDrawn
namespace Go.Proofs.Ytbeihmhiofkjlaa
open Go Go.RowKit
def DrawSpeedPost (w : World) (e : Ending) (w' : World) : Prop := ∃ (u : Value) (xs : List Int) (win : Int), e = .returned (.tuple #[u, .int .i64 win]) ∧ (0 ≤ win ∧ win ≤ 51) ∧ OwnI w.heap.size w' u xs ∧ xs.length ≤ 17 ∧ w.grownBy w' none
set_option maxHeartbeats 2000000 in
theorem DrawSpeedEstimates_any (a : Option Addr) (len cap : Nat) (w : World) (h : Byts w a len cap) :
    Calls Try.prog 34 #[.slice a len cap] w (DrawSpeedPost w) := by
  obtain ⟨i0, hi, hz0, hz1, hz2⟩ := info_parts intInfo
  have HB := Lib.hid h
  clear h
  go_enter Try.func34, Try.ntmps34
  go_wp2_with (first | (go_at_call 38; refine (open_any _ _ _ _ HB.out).mono ?_; rintro e w1 ⟨B, rfl, B_h, B_r, B_g⟩) | (go_at_call 39; apply Calls.mono; (focus ((with_reducible apply (pick_any _ _ 16)); (focus (repeat first | (with_reducible assumption) | apply Rd.drew | apply Rd.alloc)); omega)); rintro e p_w ⟨p, rfl, ⟨p_lo, p_hi, _⟩, p_r, p_g⟩; replace p_hi := p_hi (by omega); have p1 : p.toNat < 16 := by omega))
  have OS := Lib.hid ((OwnI.empty w1).past p_g B_r.lt)
  have G0 := Lib.hid (gb_trans (World.grownBy_alloc w1 (.cells #[] 3) (some B)) p_g)
  have HL := Lib.hid B_r.lt
  have R0 := Lib.hid p_r
  clear p_g p_r
  go_loopw [5, 6, 7] (fun u s k wr => ∃ (xs : List Int) (S : Int) (K m : Nat), s = .int .i64 S ∧ k = .int .i64 K ∧ (-1000 + 20 * (K : Int) ≤ S ∧ S ≤ 1000 - 20 * (K : Int)) ∧ RowKit.Hid (OwnI w1.heap.size wr u xs) ∧ xs.length + K ≤ 15 ∧ RowKit.Hid (Rd 49 wr B m) ∧ m + K ≤ 30 ∧ RowKit.Hid (w1.grownBy wr (some B)))
    (fun _ _ k _ => (intOf k).toNat)
  case atStart =>
    obtain ⟨P, rfl⟩ := Int.eq_ofNat_of_zero_le p_lo
    exact ⟨[], 0, P, _, rfl, rfl, by omega, OS, by simp; omega, R0, by omega, G0⟩
  case round =>
    obtain ⟨xs, S, K, m, rfl, rfl, ⟨S1, S2⟩, HO, hK, HR, hm, HG⟩ := hrel
    have hR := HR.out
    by_cases hk : 0 < K
    · have hk' : (0 : Int) < K := by omega
      go_wp2_with fail
      refine (pick_any B _ 21 _ hR (by omega)).mono ?_
      rintro e v_w ⟨v, rfl, ⟨v_lo, v_hi, _⟩, v_r, v_g⟩
      replace v_hi := v_hi (by omega)
      have OV := Lib.hid (HO.out.past v_g HL.out)
      have GV := Lib.hid (gb_trans HG.out v_g)
      have RV := Lib.hid v_r
      clear v_g v_r hR HO HG HR
      go_wp2_with (at_builtin; refine wpList_append_own _ rfl _ _ 32 rfl w1.heap.size 3 i0 (.int .i64 0) 1 8 Try.underlying32 hi hz0 hz1 hz2 rfl (by decide) _ _ _ rfl (OV.out.alloc _) ⟨_, 0, none⟩ 1 1 [.int .i64 (S + v - 10)] rfl rfl ?c1 ?c2 ?c3 ?c4 ?c5 ?_)
      case c1 => intro j u hj; match j, hj with | 0, hj => simp at hj; subst hj; simp [go_sem]
      case c2 => intro u hu; simp at hu; subst hu; rfl
      case c3 => unfold maxLen; omega
      case c4 => omega
      case c5 => have := GV.out.size; simp; omega
      intro v' w2 hown' hgrow hnil
      have O2 := Lib.hid (OwnI.snoc hown')
      have R2 := Lib.hid ((RV.out.alloc (.cells #[.int .i64 (S + v - 10)] 3)).keptRow hgrow (fun r hr => by have := OV.out.row r hr; have := HL.out; omega))
      have G2 := Lib.hid (gb_own (gb_alloc GV.out (.cells #[.int .i64 (S + v - 10)] 3)) hgrow (fun r hr => OV.out.row r hr))
      clear hown' hgrow hnil
      go_wp2
      go_roundw
      case rel => exact ⟨xs ++ [S + v - 10], S + v - 10, K - 1, m + 1, rfl, by rw [show (((K - 1 : Nat)) : Int) = (K : Int) - 1 by omega], by omega, O2, by simp; omega, R2, by omega, G2⟩
      case measure => simp [intOf]; omega
    · obtain rfl : K = 0 := by omega
      clear hk
      go_wp2_with fail
      refine (odd_any B _ 12 _ hR (by omega) (by omega)).mono ?_
      rintro e w3 ⟨o, rfl, o_r, o_g⟩
      have O3 := Lib.hid (HO.out.past o_g HL.out)
      have G3 := Lib.hid (gb_trans HG.out o_g)
      have hR3 := o_r
      clear hR HO HG HR o_g o_r R0 G0 OS
      have last : ∀ (w4 : World) (u : Value) (ys : List Int) (y : Int), 0 ≤ y → y ≤ 51 → OwnI w1.heap.size w4 u ys → ys.length ≤ 17 → w1.grownBy w4 (some B) → DrawSpeedPost w (.returned (.tuple #[u, .int .i64 y])) w4 := by
        intro w4 u ys y hy1 hy2 ho hl hg
        refine ⟨u, ys, y, rfl, ⟨hy1, hy2⟩, ho.mono B_g.size, hl, ?_⟩
        exact gb_new (gb_trans (gb_any B_g (some B)) hg) (fun k hk => by rw [← Option.some.inj hk]; exact B_h)
      have LAST := Lib.hid last
      clear last
      cases o with
      | false =>
        go_upto_region 11 with fail
        refine wp_drawn_put (shs (some B) [shVal _ (u5), shRow _ 5 (0) (51), shRow _ 7 (0) (4), shVal _ (.pointer (some ⟨B, 0, none⟩)), shIn _ (0) (6), shPtr _ (0) (4), shIn _ (0) (4), shPtr _ (0) (51), shIn _ (0) (51), shVal _ (u5), shIn _ (0) (51)])
          (fun k w' => Rd 49 w' B (m + 1 + k) ∧ w3.grownBy w' (some B)) (some B) (by kernel_rfl) (by kernel_rfl) (shs_st _ _) ⟨hR3.drew, gb_drew (World.grownBy.refl _ _)⟩ ?_ ?_
        · refine step_plain rfl (fun k a w' hk hJ hd hs K hK => ?_) ?_
          · have e5 : a.tmps[5]?.getD undef = u5 := hs.at 5 (by kernel_rfl)
            clear hd hs
            have hkk : k < 11 := hk
            clear hk
            have HJ := Lib.hid hJ; clear hJ
            go_simp
            try simp (disch := omega) only [IntWalk.i64_in]
            exact hK.out _ _ rfl ⟨HJ.out.1.mono (by omega), HJ.out.2⟩ (World.grownBy.refl _ _)
          refine step_plain rfl (fun k a w' hk hJ hd hs K hK => ?_) ?_
          · clear hd hs
            have hkk : k < 11 := hk
            clear hk
            have HJ := Lib.hid hJ; clear hJ
            have hlt := HJ.out.1.lt
            go_simp
            refine hK.out _ _ ⟨w'.heap.size, rfl, fun e => absurd (Option.some.inj e) (by omega), fun j hj => ?_⟩ ⟨(HJ.out.1.alloc _).mono (by omega), gb_alloc HJ.out.2 _⟩ (World.grownBy_alloc _ _ _)
            rcases (show j = 0 ∨ j = 1 ∨ j = 2 ∨ j = 3 ∨ j = 4 from by omega) with rfl | rfl | rfl | rfl | rfl
            · exact ⟨(1), by simp [go_sem], by omega, by omega⟩
            · exact ⟨(2), by simp [go_sem], by omega, by omega⟩
            · exact ⟨(3), by simp [go_sem], by omega, by omega⟩
            · exact ⟨(0), by simp [go_sem], by omega, by omega⟩
            · exact ⟨(51), by simp [go_sem], by omega, by omega⟩
          refine step_plain rfl (fun k a w' hk hJ hd hs K hK => ?_) ?_
          · clear hd hs
            have hkk : k < 11 := hk
            clear hk
            have HJ := Lib.hid hJ; clear hJ
            have hlt := HJ.out.1.lt
            go_simp
            refine hK.out _ _ ⟨w'.heap.size, rfl, fun e => absurd (Option.some.inj e) (by omega), fun j hj => ?_⟩ ⟨(HJ.out.1.alloc _).mono (by omega), gb_alloc HJ.out.2 _⟩ (World.grownBy_alloc _ _ _)
            rcases (show j = 0 ∨ j = 1 ∨ j = 2 ∨ j = 3 ∨ j = 4 ∨ j = 5 ∨ j = 6 from by omega) with rfl | rfl | rfl | rfl | rfl | rfl | rfl
            · exact ⟨(0), by simp [go_sem], by omega, by omega⟩
            · exact ⟨(1), by simp [go_sem], by omega, by omega⟩
            · exact ⟨(1), by simp [go_sem], by omega, by omega⟩
            · exact ⟨(2), by simp [go_sem], by omega, by omega⟩
            · exact ⟨(2), by simp [go_sem], by omega, by omega⟩
            · exact ⟨(3), by simp [go_sem], by omega, by omega⟩
            · exact ⟨(4), by simp [go_sem], by omega, by omega⟩
          refine step_plain rfl (fun k a w' hk hJ hd hs K hK => ?_) ?_
          · have e4 : a.tmps[4]?.getD undef = .pointer (some ⟨B, 0, none⟩) := hs.at 4 (by kernel_rfl)
            clear hd hs
            have hkk : k < 11 := hk
            clear hk
            have HJ := Lib.hid hJ; clear hJ
            go_simp
            try simp (disch := omega) only [IntWalk.i64_in]
            exact hK.out _ _ rfl ⟨HJ.out.1.mono (by omega), HJ.out.2⟩ (World.grownBy.refl _ _)
          refine step_plain rfl (fun k a w' hk hJ hd hs K hK => ?_) ?_
          · have e34 : a.tmps[34]?.getD undef = .pointer (some ⟨B, 0, none⟩) := hs.get 3 34 (by kernel_rfl) (by kernel_rfl)
            clear hd hs
            have hkk : k < 11 := hk
            clear hk
            have HJ := Lib.hid hJ; clear hJ
            go_simp
            refine (pick_any B _ _ _ HJ.out.1 (by omega)).mono ?_
            rintro e w2 ⟨v, rfl, ⟨p1, p2, _⟩, hr, hg⟩
            exact hK.out _ _ ⟨v, rfl, by omega, by have := p2 (by omega); omega⟩ ⟨hr, gb_trans HJ.out.2 hg⟩ hg
          refine step_plain rfl (fun k a w' hk hJ hd hs K hK => ?_) ?_
          · obtain ⟨g33, e33, n33, c33⟩ : ∃ g : Nat, a.tmps[33]?.getD undef = .slice (some ⟨g, 0, none⟩) 7 7 ∧ (some B) ≠ some g ∧ ∀ j, j < 7 → ∃ x : Int, w'.cell? ⟨g, j, none⟩ = some (.int .i64 x) ∧ (0) ≤ x ∧ x ≤ (4) := hs.get 2 33 (by kernel_rfl) (by kernel_rfl)
            obtain ⟨x35, e35, l35, u35⟩ : ∃ x : Int, a.tmps[35]?.getD undef = .int .i64 x ∧ (0) ≤ x ∧ x ≤ (6) := hs.get 4 35 (by kernel_rfl) (by kernel_rfl)
            clear hd hs
            have hkk : k < 11 := hk
            clear hk
            obtain ⟨m, rfl⟩ := Int.eq_ofNat_of_zero_le (show 0 ≤ x35 by omega)
            obtain ⟨y, hy, hy1, hy2⟩ := c33 m (by omega)
            clear c33
            have hbd : (m : Int) < 7 := by omega
            have HJ := Lib.hid hJ; clear hJ
            go_simp
            exact hK.out _ _ ⟨g33, m, y, rfl, n33, hy, hy1, hy2⟩ ⟨HJ.out.1.mono (by omega), HJ.out.2⟩ (World.grownBy.refl _ _)
          refine step_plain rfl (fun k a w' hk hJ hd hs K hK => ?_) ?_
          · obtain ⟨g36, o36, x36, e36, n36, c36, l36, u36⟩ : ∃ (g o : Nat) (x : Int), a.tmps[36]?.getD undef = .pointer (some ⟨g, o, none⟩) ∧ (some B) ≠ some g ∧ w'.cell? ⟨g, o, none⟩ = some (.int .i64 x) ∧ (0) ≤ x ∧ x ≤ (4) := hs.get 5 36 (by kernel_rfl) (by kernel_rfl)
            clear hd hs
            have hkk : k < 11 := hk
            clear hk
            have HJ := Lib.hid hJ; clear hJ
            go_simp
            try simp (disch := omega) only [IntWalk.i64_in]
            exact hK.out _ _ ⟨_, rfl, by omega, by omega⟩ ⟨HJ.out.1.mono (by omega), HJ.out.2⟩ (World.grownBy.refl _ _)
          refine step_plain rfl (fun k a w' hk hJ hd hs K hK => ?_) ?_
          · obtain ⟨g32, e32, n32, c32⟩ : ∃ g : Nat, a.tmps[32]?.getD undef = .slice (some ⟨g, 0, none⟩) 5 5 ∧ (some B) ≠ some g ∧ ∀ j, j < 5 → ∃ x : Int, w'.cell? ⟨g, j, none⟩ = some (.int .i64 x) ∧ (0) ≤ x ∧ x ≤ (51) := hs.get 1 32 (by kernel_rfl) (by kernel_rfl)
            obtain ⟨x37, e37, l37, u37⟩ : ∃ x : Int, a.tmps[37]?.getD undef = .int .i64 x ∧ (0) ≤ x ∧ x ≤ (4) := hs.get 6 37 (by kernel_rfl) (by kernel_rfl)
            clear hd hs
            have hkk : k < 11 := hk
            clear hk
            obtain ⟨m, rfl⟩ := Int.eq_ofNat_of_zero_le (show 0 ≤ x37 by omega)
            obtain ⟨y, hy, hy1, hy2⟩ := c32 m (by omega)
            clear c32
            have hbd : (m : Int) < 5 := by omega
            have HJ := Lib.hid hJ; clear hJ
            go_simp
            exact hK.out _ _ ⟨g32, m, y, rfl, n32, hy, hy1, hy2⟩ ⟨HJ.out.1.mono (by omega), HJ.out.2⟩ (World.grownBy.refl _ _)
          refine step_plain rfl (fun k a w' hk hJ hd hs K hK => ?_) ?_
          · obtain ⟨g38, o38, x38, e38, n38, c38, l38, u38⟩ : ∃ (g o : Nat) (x : Int), a.tmps[38]?.getD undef = .pointer (some ⟨g, o, none⟩) ∧ (some B) ≠ some g ∧ w'.cell? ⟨g, o, none⟩ = some (.int .i64 x) ∧ (0) ≤ x ∧ x ≤ (51) := hs.get 7 38 (by kernel_rfl) (by kernel_rfl)
            clear hd hs
            have hkk : k < 11 := hk
            clear hk
            have HJ := Lib.hid hJ; clear hJ
            go_simp
            try simp (disch := omega) only [IntWalk.i64_in]
            exact hK.out _ _ ⟨_, rfl, by omega, by omega⟩ ⟨HJ.out.1.mono (by omega), HJ.out.2⟩ (World.grownBy.refl _ _)
          refine step_plain rfl (fun k a w' hk hJ hd hs K hK => ?_) ?_
          · have e31 : a.tmps[31]?.getD undef = u5 := hs.get 0 31 (by kernel_rfl) (by kernel_rfl)
            clear hd hs
            have hkk : k < 11 := hk
            clear hk
            have HJ := Lib.hid hJ; clear hJ
            go_simp
            try simp (disch := omega) only [IntWalk.i64_in]
            exact hK.out _ _ rfl ⟨HJ.out.1.mono (by omega), HJ.out.2⟩ (World.grownBy.refl _ _)
          refine step_plain rfl (fun k a w' hk hJ hd hs K hK => ?_) ?_
          · obtain ⟨x39, e39, l39, u39⟩ : ∃ x : Int, a.tmps[39]?.getD undef = .int .i64 x ∧ (0) ≤ x ∧ x ≤ (51) := hs.get 8 39 (by kernel_rfl) (by kernel_rfl)
            clear hd hs
            have hkk : k < 11 := hk
            clear hk
            have HJ := Lib.hid hJ; clear hJ
            go_simp
            try simp (disch := omega) only [IntWalk.i64_in]
            exact hK.out _ _ ⟨_, rfl, by omega, by omega⟩ ⟨HJ.out.1.mono (by omega), HJ.out.2⟩ (World.grownBy.refl _ _)
          exact step_nil
        · intro vs w' hJ hA
          have f2 : vs 9 = u5 := hA 9 (by decide)
          obtain ⟨y3, f3, fl3, fu3⟩ : ∃ x : Int, vs 10 = .int .i64 x ∧ (0) ≤ x ∧ x ≤ (51) := hA 10 (by decide)
          clear hA
          simp only [putAll, Act.put, List.setIfInBounds_toArray, List.set_cons_zero, List.set_cons_succ, f2, f3]
          clear f2 f3
          go_wp2
          go_ret2
          exact LAST.out _ _ _ _ fl3 fu3 (O3.out.past hJ.2 HL.out) (by omega) (gb_trans G3.out hJ.2)
      | true =>
        go_wp2_with (at_builtin; refine wpList_append_own _ rfl _ _ 32 rfl w1.heap.size 3 i0 (.int .i64 0) 1 8 Try.underlying32 hi hz0 hz1 hz2 rfl (by decide) _ _ _ rfl (O3.out.alloc _) ⟨_, 0, none⟩ 1 1 [.int .i64 1000001] rfl rfl ?d1 ?d2 ?d3 ?d4 ?d5 ?_)
        case d1 => intro j u hj; match j, hj with | 0, hj => simp at hj; subst hj; simp [go_sem]
        case d2 => intro u hu; simp at hu; subst hu; rfl
        case d3 => unfold maxLen; omega
        case d4 => omega
        case d5 => have := G3.out.size; simp; omega
        intro v' w5 hown' hgrow hnil
        have O5 := Lib.hid (OwnI.snoc hown')
        have R5 := ((hR3.alloc (.cells #[.int .i64 1000001] 3)).keptRow hgrow (fun r hr => by have := O3.out.row r hr; have := HL.out; omega))
        have G5 := Lib.hid (gb_own (gb_alloc G3.out (.cells #[.int .i64 1000001] 3)) hgrow (fun r hr => O3.out.row r hr))
        clear hown' hgrow hnil hR3
        go_upto_region 11 with fail
        refine wp_drawn_put (shs (some B) [shVal _ (v'), shRow _ 5 (0) (51), shRow _ 7 (0) (4), shVal _ (.pointer (some ⟨B, 0, none⟩)), shIn _ (0) (6), shPtr _ (0) (4), shIn _ (0) (4), shPtr _ (0) (51), shIn _ (0) (51), shVal _ (v'), shIn _ (0) (51)])
          (fun k w' => Rd 49 w' B (m + 1 + k) ∧ w5.grownBy w' (some B)) (some B) (by kernel_rfl) (by kernel_rfl) (shs_st _ _) ⟨R5.drew, gb_drew (World.grownBy.refl _ _)⟩ ?_ ?_
        · refine step_plain rfl (fun k a w' hk hJ hd hs K hK => ?_) ?_
          · have e5 : a.tmps[5]?.getD undef = v' := hs.at 5 (by kernel_rfl)
            clear hd hs
            have hkk : k < 11 := hk
            clear hk
            have HJ := Lib.hid hJ; clear hJ
            go_simp
            try simp (disch := omega) only [IntWalk.i64_in]
            exact hK.out _ _ rfl ⟨HJ.out.1.mono (by omega), HJ.out.2⟩ (World.grownBy.refl _ _)
          refine step_plain rfl (fun k a w' hk hJ hd hs K hK => ?_) ?_
          · clear hd hs
            have hkk : k < 11 := hk
            clear hk
            have HJ := Lib.hid hJ; clear hJ
            have hlt := HJ.out.1.lt
            go_simp
            refine hK.out _ _ ⟨w'.heap.size, rfl, fun e => absurd (Option.some.inj e) (by omega), fun j hj => ?_⟩ ⟨(HJ.out.1.alloc _).mono (by omega), gb_alloc HJ.out.2 _⟩ (World.grownBy_alloc _ _ _)
            rcases (show j = 0 ∨ j = 1 ∨ j = 2 ∨ j = 3 ∨ j = 4 from by omega) with rfl | rfl | rfl | rfl | rfl
            · exact ⟨(1), by simp [go_sem], by omega, by omega⟩
            · exact ⟨(2), by simp [go_sem], by omega, by omega⟩
            · exact ⟨(3), by simp [go_sem], by omega, by omega⟩
            · exact ⟨(0), by simp [go_sem], by omega, by omega⟩
            · exact ⟨(51), by simp [go_sem], by omega, by omega⟩
          refine step_plain rfl (fun k a w' hk hJ hd hs K hK => ?_) ?_
          · clear hd hs
            have hkk : k < 11 := hk
            clear hk
            have HJ := Lib.hid hJ; clear hJ
            have hlt := HJ.out.1.lt
            go_simp
            refine hK.out _ _ ⟨w'.heap.size, rfl, fun e => absurd (Option.some.inj e) (by omega), fun j hj => ?_⟩ ⟨(HJ.out.1.alloc _).mono (by omega), gb_alloc HJ.out.2 _⟩ (World.grownBy_alloc _ _ _)
            rcases (show j = 0 ∨ j = 1 ∨ j = 2 ∨ j = 3 ∨ j = 4 ∨ j = 5 ∨ j = 6 from by omega) with rfl | rfl | rfl | rfl | rfl | rfl | rfl
            · exact ⟨(0), by simp [go_sem], by omega, by omega⟩
            · exact ⟨(1), by simp [go_sem], by omega, by omega⟩
            · exact ⟨(1), by simp [go_sem], by omega, by omega⟩
            · exact ⟨(2), by simp [go_sem], by omega, by omega⟩
            · exact ⟨(2), by simp [go_sem], by omega, by omega⟩
            · exact ⟨(3), by simp [go_sem], by omega, by omega⟩
            · exact ⟨(4), by simp [go_sem], by omega, by omega⟩
          refine step_plain rfl (fun k a w' hk hJ hd hs K hK => ?_) ?_
          · have e4 : a.tmps[4]?.getD undef = .pointer (some ⟨B, 0, none⟩) := hs.at 4 (by kernel_rfl)
            clear hd hs
            have hkk : k < 11 := hk
            clear hk
            have HJ := Lib.hid hJ; clear hJ
            go_simp
            try simp (disch := omega) only [IntWalk.i64_in]
            exact hK.out _ _ rfl ⟨HJ.out.1.mono (by omega), HJ.out.2⟩ (World.grownBy.refl _ _)
          refine step_plain rfl (fun k a w' hk hJ hd hs K hK => ?_) ?_
          · have e34 : a.tmps[34]?.getD undef = .pointer (some ⟨B, 0, none⟩) := hs.get 3 34 (by kernel_rfl) (by kernel_rfl)
            clear hd hs
            have hkk : k < 11 := hk
            clear hk
            have HJ := Lib.hid hJ; clear hJ
            go_simp
            refine (pick_any B _ _ _ HJ.out.1 (by omega)).mono ?_
            rintro e w2 ⟨v, rfl, ⟨p1, p2, _⟩, hr, hg⟩
            exact hK.out _ _ ⟨v, rfl, by omega, by have := p2 (by omega); omega⟩ ⟨hr, gb_trans HJ.out.2 hg⟩ hg
          refine step_plain rfl (fun k a w' hk hJ hd hs K hK => ?_) ?_
          · obtain ⟨g33, e33, n33, c33⟩ : ∃ g : Nat, a.tmps[33]?.getD undef = .slice (some ⟨g, 0, none⟩) 7 7 ∧ (some B) ≠ some g ∧ ∀ j, j < 7 → ∃ x : Int, w'.cell? ⟨g, j, none⟩ = some (.int .i64 x) ∧ (0) ≤ x ∧ x ≤ (4) := hs.get 2 33 (by kernel_rfl) (by kernel_rfl)
            obtain ⟨x35, e35, l35, u35⟩ : ∃ x : Int, a.tmps[35]?.getD undef = .int .i64 x ∧ (0) ≤ x ∧ x ≤ (6) := hs.get 4 35 (by kernel_rfl) (by kernel_rfl)
            clear hd hs
            have hkk : k < 11 := hk
            clear hk
            obtain ⟨m, rfl⟩ := Int.eq_ofNat_of_zero_le (show 0 ≤ x35 by omega)
            obtain ⟨y, hy, hy1, hy2⟩ := c33 m (by omega)
            clear c33
            have hbd : (m : Int) < 7 := by omega
            have HJ := Lib.hid hJ; clear hJ
            go_simp
            exact hK.out _ _ ⟨g33, m, y, rfl, n33, hy, hy1, hy2⟩ ⟨HJ.out.1.mono (by omega), HJ.out.2⟩ (World.grownBy.refl _ _)
          refine step_plain rfl (fun k a w' hk hJ hd hs K hK => ?_) ?_
          · obtain ⟨g36, o36, x36, e36, n36, c36, l36, u36⟩ : ∃ (g o : Nat) (x : Int), a.tmps[36]?.getD undef = .pointer (some ⟨g, o, none⟩) ∧ (some B) ≠ some g ∧ w'.cell? ⟨g, o, none⟩ = some (.int .i64 x) ∧ (0) ≤ x ∧ x ≤ (4) := hs.get 5 36 (by kernel_rfl) (by kernel_rfl)
            clear hd hs
            have hkk : k < 11 := hk
            clear hk
            have HJ := Lib.hid hJ; clear hJ
            go_simp
            try simp (disch := omega) only [IntWalk.i64_in]
            exact hK.out _ _ ⟨_, rfl, by omega, by omega⟩ ⟨HJ.out.1.mono (by omega), HJ.out.2⟩ (World.grownBy.refl _ _)
          refine step_plain rfl (fun k a w' hk hJ hd hs K hK => ?_) ?_
          · obtain ⟨g32, e32, n32, c32⟩ : ∃ g : Nat, a.tmps[32]?.getD undef = .slice (some ⟨g, 0, none⟩) 5 5 ∧ (some B) ≠ some g ∧ ∀ j, j < 5 → ∃ x : Int, w'.cell? ⟨g, j, none⟩ = some (.int .i64 x) ∧ (0) ≤ x ∧ x ≤ (51) := hs.get 1 32 (by kernel_rfl) (by kernel_rfl)
            obtain ⟨x37, e37, l37, u37⟩ : ∃ x : Int, a.tmps[37]?.getD undef = .int .i64 x ∧ (0) ≤ x ∧ x ≤ (4) := hs.get 6 37 (by kernel_rfl) (by kernel_rfl)
            clear hd hs
            have hkk : k < 11 := hk
            clear hk
            obtain ⟨m, rfl⟩ := Int.eq_ofNat_of_zero_le (show 0 ≤ x37 by omega)
            obtain ⟨y, hy, hy1, hy2⟩ := c32 m (by omega)
            clear c32
            have hbd : (m : Int) < 5 := by omega
            have HJ := Lib.hid hJ; clear hJ
            go_simp
            exact hK.out _ _ ⟨g32, m, y, rfl, n32, hy, hy1, hy2⟩ ⟨HJ.out.1.mono (by omega), HJ.out.2⟩ (World.grownBy.refl _ _)
          refine step_plain rfl (fun k a w' hk hJ hd hs K hK => ?_) ?_
          · obtain ⟨g38, o38, x38, e38, n38, c38, l38, u38⟩ : ∃ (g o : Nat) (x : Int), a.tmps[38]?.getD undef = .pointer (some ⟨g, o, none⟩) ∧ (some B) ≠ some g ∧ w'.cell? ⟨g, o, none⟩ = some (.int .i64 x) ∧ (0) ≤ x ∧ x ≤ (51) := hs.get 7 38 (by kernel_rfl) (by kernel_rfl)
            clear hd hs
            have hkk : k < 11 := hk
            clear hk
            have HJ := Lib.hid hJ; clear hJ
            go_simp
            try simp (disch := omega) only [IntWalk.i64_in]
            exact hK.out _ _ ⟨_, rfl, by omega, by omega⟩ ⟨HJ.out.1.mono (by omega), HJ.out.2⟩ (World.grownBy.refl _ _)
          refine step_plain rfl (fun k a w' hk hJ hd hs K hK => ?_) ?_
          · have e31 : a.tmps[31]?.getD undef = v' := hs.get 0 31 (by kernel_rfl) (by kernel_rfl)
            clear hd hs
            have hkk : k < 11 := hk
            clear hk
            have HJ := Lib.hid hJ; clear hJ
            go_simp
            try simp (disch := omega) only [IntWalk.i64_in]
            exact hK.out _ _ rfl ⟨HJ.out.1.mono (by omega), HJ.out.2⟩ (World.grownBy.refl _ _)
          refine step_plain rfl (fun k a w' hk hJ hd hs K hK => ?_) ?_
          · obtain ⟨x39, e39, l39, u39⟩ : ∃ x : Int, a.tmps[39]?.getD undef = .int .i64 x ∧ (0) ≤ x ∧ x ≤ (51) := hs.get 8 39 (by kernel_rfl) (by kernel_rfl)
            clear hd hs
            have hkk : k < 11 := hk
            clear hk
            have HJ := Lib.hid hJ; clear hJ
            go_simp
            try simp (disch := omega) only [IntWalk.i64_in]
            exact hK.out _ _ ⟨_, rfl, by omega, by omega⟩ ⟨HJ.out.1.mono (by omega), HJ.out.2⟩ (World.grownBy.refl _ _)
          exact step_nil
        · intro vs w' hJ hA
          have f2 : vs 9 = v' := hA 9 (by decide)
          obtain ⟨y3, f3, fl3, fu3⟩ : ∃ x : Int, vs 10 = .int .i64 x ∧ (0) ≤ x ∧ x ≤ (51) := hA 10 (by decide)
          clear hA
          simp only [putAll, Act.put, List.setIfInBounds_toArray, List.set_cons_zero, List.set_cons_succ, f2, f3]
          clear f2 f3
          go_wp2
          go_ret2
          exact LAST.out _ _ _ _ fl3 fu3 (O5.out.past hJ.2 HL.out) (by simp; omega) (gb_trans G5.out hJ.2)
end Go.Proofs.Ytbeihmhiofkjlaa
