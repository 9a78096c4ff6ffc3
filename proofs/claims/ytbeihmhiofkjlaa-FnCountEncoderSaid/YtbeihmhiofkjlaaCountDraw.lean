/-
  The draw of samples of an encoder: a first sample and at most 20 samples.
-/
import Derived.Test.YtbeihmhiofkjlaaInts
namespace Go.Proofs.Ytbeihmhiofkjlaa
open Go Go.RowKit
attribute [local go_sem ↓] lit2 lit4 lit5
def DrawCountPost (w : World) (e : Ending) (w' : World) : Prop := ∃ (f : Int) (u : Value) (xs : List Int), e = .returned (.tuple #[.int .i64 f, u]) ∧ (0 ≤ f ∧ f ≤ 12) ∧ OwnI w.heap.size w' u xs ∧ xs.length ≤ 20 ∧ w.grownBy w' none
set_option maxHeartbeats 2000000 in
theorem DrawCountEncoder_any (a : Option Addr) (len cap : Nat) (w : World) (h : Byts w a len cap) :
    Calls Try.prog 28 #[.slice a len cap] w (DrawCountPost w) := by
  obtain ⟨i0, hi, hz0, hz1, hz2⟩ := info_parts intInfo
  have HB := Lib.hid h
  clear h
  go_enter Try.func28, Try.ntmps28
  go_wp2_with (first | (go_at_call 38; refine (open_any _ _ _ _ HB.out).mono ?_; rintro e w1 ⟨B, rfl, B_h, B_r, B_g⟩) | (go_at_call 39; apply Calls.mono; (focus ((with_reducible apply (pick_any _ _ 4)); (focus (repeat first | (with_reducible assumption) | apply Rd.drew | apply Rd.alloc)); omega)); rintro e p_w ⟨p, rfl, ⟨p_lo, p_hi, _⟩, p_r, p_g⟩; replace p_hi := p_hi (by omega); have p1 : p.toNat < 4 := by omega) | (go_at_call 39; apply Calls.mono; (focus ((with_reducible apply (pick_any _ _ 20)); (focus (repeat first | (with_reducible assumption) | apply Rd.drew | apply Rd.alloc)); omega)); rintro e q_w ⟨q, rfl, ⟨q_lo, q_hi, _⟩, q_r, q_g⟩; replace q_hi := q_hi (by omega); skip))
  have OS := Lib.hid ((((OwnI.empty w1).past p_g B_r.lt).alloc (.cells #[.int .i64 0, .int .i64 1, .int .i64 3, .int .i64 2] 3)).past q_g B_r.lt)
  have G0 := Lib.hid (gb_trans (gb_trans (gb_trans (World.grownBy_alloc w1 (.cells #[] 3) (some B)) p_g) (World.grownBy_alloc _ (.cells #[.int .i64 0, .int .i64 1, .int .i64 3, .int .i64 2] 3) (some B))) q_g)
  have HL := Lib.hid B_r.lt
  have F := Lib.hid (sel_bd (l := [0, 1, 3, 2]) (lo := 0) (hi := 3) (by decide) p1)
  have R0 := Lib.hid q_r
  clear p_g q_g p_r q_r
  go_loopw [5, 6, 8] (fun u p k wr => ∃ (xs : List Int) (P K m : Nat), p = .int .i64 P ∧ P ≤ 3 ∧ k = .int .i64 K ∧ RowKit.Hid (OwnI w1.heap.size wr u xs) ∧ xs.length + K ≤ 19 ∧ RowKit.Hid (Rd 49 wr B m) ∧ m + K ≤ 30 ∧ RowKit.Hid (w1.grownBy wr (some B)))
    (fun _ _ k _ => (intOf k).toNat)
  case atStart =>
    obtain ⟨P, rfl⟩ := Int.eq_ofNat_of_zero_le p_lo
    obtain ⟨Q, rfl⟩ := Int.eq_ofNat_of_zero_le q_lo
    exact ⟨[], P, Q, _, rfl, by omega, rfl, OS, by simp; omega, R0, by omega, G0⟩
  case round =>
    obtain ⟨xs, P, K, m, rfl, hP, rfl, HO, hK, HR, hm, HG⟩ := hrel
    have hR := HR.out
    by_cases hk : 0 < K
    · have hk' : (0 : Int) < K := by omega
      go_wp2_with fail
      refine (pick_any B _ 5 _ (hR.alloc _) (by omega)).mono ?_
      rintro e v_w ⟨v, rfl, ⟨v_lo, v_hi, _⟩, v_r, v_g⟩
      replace v_hi := v_hi (by omega)
      have q1 : v.toNat < 5 := by omega
      have q2 := gb_cell v_g (b := wr.heap.size) (o := v.toNat) (v := .int .i64 (sel [0, 1, 1, 3, 2] v.toNat)) (by simp [go_sem, lit5, q1]) (by have := hR.lt; simp; omega)
      have q5 := sel_bd (l := [0, 1, 1, 3, 2]) (lo := 0) (hi := 3) (by decide) q1
      obtain ⟨q3, q4⟩ := q5
      obtain ⟨z, hz, hz4⟩ : ∃ z : Nat, ((P : Int) + sel [0, 1, 1, 3, 2] v.toNat) % 4 = (z : Int) ∧ z < 4 := ⟨(((P : Int) + sel [0, 1, 1, 3, 2] v.toNat) % 4).toNat, by omega, by omega⟩
      have OV := Lib.hid ((HO.out.alloc (.cells #[.int .i64 0, .int .i64 1, .int .i64 1, .int .i64 3, .int .i64 2] 3)).past v_g HL.out)
      have GV := Lib.hid (gb_trans (gb_alloc HG.out (.cells #[.int .i64 0, .int .i64 1, .int .i64 1, .int .i64 3, .int .i64 2] 3)) v_g)
      have RV := Lib.hid v_r
      clear v_g v_r hR HO HG HR
      go_wp2_with (at_builtin; refine wpList_append_own _ rfl _ _ 32 rfl w1.heap.size 3 i0 (.int .i64 0) 1 8 Try.underlying32 hi hz0 hz1 hz2 rfl (by decide) _ _ _ rfl ((OV.out.alloc _).alloc _) ⟨_, 0, none⟩ 1 1 [.int .i64 (sel [0, 1, 3, 2] z)] rfl rfl ?c1 ?c2 ?c3 ?c4 ?c5 ?_)
      case c1 => intro j u hj; match j, hj with | 0, hj => simp at hj; subst hj; simp [go_sem]
      case c2 => intro u hu; simp at hu; subst hu; rfl
      case c3 => unfold maxLen; omega
      case c4 => omega
      case c5 => have := GV.out.size; simp; omega
      intro v' w2 hown' hgrow hnil
      have O2 := Lib.hid (OwnI.snoc hown')
      have R2 := Lib.hid (((RV.out.alloc (.cells #[.int .i64 0, .int .i64 1, .int .i64 3, .int .i64 2] 3)).alloc (.cells #[.int .i64 (sel [0, 1, 3, 2] z)] 3)).keptRow hgrow (fun r hr => by have := OV.out.row r hr; have := HL.out; omega))
      have G2 := Lib.hid (gb_own (gb_alloc (gb_alloc GV.out (.cells #[.int .i64 0, .int .i64 1, .int .i64 3, .int .i64 2] 3)) (.cells #[.int .i64 (sel [0, 1, 3, 2] z)] 3)) hgrow (fun r hr => OV.out.row r hr))
      clear hown' hgrow hnil
      go_wp2
      go_roundw
      case rel => exact ⟨xs ++ [sel [0, 1, 3, 2] z], z, K - 1, m + 1, rfl, by omega, by rw [show (((K - 1 : Nat)) : Int) = (K : Int) - 1 by omega], O2, by simp; omega, R2, by omega, G2⟩
      case measure => simp [intOf]; omega
    · obtain rfl : K = 0 := by omega
      clear hk
      go_wp2_with fail
      refine (odd_any B _ 12 _ hR (by omega) (by omega)).mono ?_
      rintro e w3 ⟨o, rfl, o_r, o_g⟩
      have O3 := Lib.hid (HO.out.past o_g HL.out)
      have G3 := Lib.hid (gb_trans HG.out o_g)
      have FB := Lib.hid F.out
      have hR3 := o_r
      clear hR HO HG HR o_g o_r
      have last : ∀ (w4 : World) (u : Value) (ys : List Int) (y : Int), 0 ≤ y → y ≤ 13 → OwnI w1.heap.size w4 u ys → ys.length ≤ 20 → w1.grownBy w4 (some B) → DrawCountPost w (.returned (.tuple #[.int .i64 (sel [0, 1, 3, 2] p.toNat + y / 13 * 9), u])) w4 := by
        intro w4 u ys y hy1 hy2 ho hl hg
        have := FB.out
        refine ⟨_, u, ys, rfl, ⟨by omega, by omega⟩, ho.mono B_g.size, hl, ?_⟩
        exact gb_new (gb_trans (gb_any B_g (some B)) hg) (fun k hk => by rw [← Option.some.inj hk]; exact B_h)
      have LAST := Lib.hid last
      clear last
      cases o with
      | false =>
        go_wp2_with fail
        refine (pick_any B _ 14 _ hR3 (by omega)).mono ?_
        rintro e w4 ⟨y, rfl, ⟨y_lo, y_hi, _⟩, y_r, y_g⟩
        replace y_hi := y_hi (by omega)
        have FA := F.out
        obtain ⟨F1, F2⟩ := FA
        have O4 := Lib.hid (O3.out.past y_g HL.out)
        have G4 := Lib.hid (gb_trans G3.out y_g)
        clear y_g y_r
        go_wp2_with fail
        go_ret2
        exact LAST.out _ _ _ y y_lo (by omega) O4.out (by omega) G4.out
      | true =>
        go_wp2_with fail
        refine (pick_any B _ 2 _ (hR3.alloc _) (by omega)).mono ?_
        rintro e v_w ⟨v, rfl, ⟨v_lo, v_hi, _⟩, v_r, v_g⟩
        replace v_hi := v_hi (by omega)
        have q1 : v.toNat < 2 := by omega
        have q2 := gb_cell v_g (b := w3.heap.size) (o := v.toNat) (v := .int .i64 (sel [-1, 4] v.toNat)) (by simp [go_sem, lit2, q1]) (by have := hR3.lt; simp; omega)
        have OV := Lib.hid ((O3.out.alloc (.cells #[.int .i64 (-1), .int .i64 4] 3)).past v_g HL.out)
        have GV := Lib.hid (gb_trans (gb_alloc G3.out (.cells #[.int .i64 (-1), .int .i64 4] 3)) v_g)
        have RV := Lib.hid v_r
        clear v_g v_r hR3
        go_wp2_with (at_builtin; refine wpList_append_own _ rfl _ _ 32 rfl w1.heap.size 3 i0 (.int .i64 0) 1 8 Try.underlying32 hi hz0 hz1 hz2 rfl (by decide) _ _ _ rfl (OV.out.alloc _) ⟨_, 0, none⟩ 1 1 [.int .i64 (sel [-1, 4] v.toNat)] rfl rfl ?d1 ?d2 ?d3 ?d4 ?d5 ?_)
        case d1 => intro j u hj; match j, hj with | 0, hj => simp at hj; subst hj; simp [go_sem]
        case d2 => intro u hu; simp at hu; subst hu; rfl
        case d3 => unfold maxLen; omega
        case d4 => omega
        case d5 => have := GV.out.size; simp; omega
        intro v' w5 hown' hgrow hnil
        have O5 := Lib.hid (OwnI.snoc hown')
        have R5 := ((RV.out.alloc (.cells #[.int .i64 (sel [-1, 4] v.toNat)] 3)).keptRow hgrow (fun r hr => by have := OV.out.row r hr; have := HL.out; omega))
        have G5 := Lib.hid (gb_own (gb_alloc GV.out (.cells #[.int .i64 (sel [-1, 4] v.toNat)] 3)) hgrow (fun r hr => OV.out.row r hr))
        clear hown' hgrow hnil q2
        go_wp2_with fail
        refine (pick_any B _ 14 _ R5 (by omega)).mono ?_
        rintro e w4 ⟨y, rfl, ⟨y_lo, y_hi, _⟩, y_r, y_g⟩
        replace y_hi := y_hi (by omega)
        have FA := F.out
        obtain ⟨F1, F2⟩ := FA
        have O4 := Lib.hid (O5.out.past y_g HL.out)
        have G4 := Lib.hid (gb_trans G5.out y_g)
        clear y_g y_r R5
        go_wp2_with fail
        go_ret2
        exact LAST.out _ _ _ y y_lo (by omega) O4.out (by simp; omega) G4.out
end Go.Proofs.Ytbeihmhiofkjlaa
