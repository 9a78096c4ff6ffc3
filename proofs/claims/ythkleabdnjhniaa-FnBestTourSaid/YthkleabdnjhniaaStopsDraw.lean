/-
  The draw of stops: at most 17 points.
-/
import Derived.Test.YthkleabdnjhniaaPointDraw
import Derived.Test.YthkleabdnjhniaaDeep
namespace Go.Proofs.Ythkleabdnjhniaa
open Go Go.RowKit
def StpQ (w0 : World) (B m : Nat) (Ls : List Asr) (e : Ending) (w' : World) : Prop :=
  ∃ (v : Value) (xs : List Pt) (m' : Nat), e = .returned v ∧ xs.length ≤ 20 ∧ m' ≤ m + 400 ∧ St w0 w' (Own LPt v xs :: Rdr w0 B m' :: Ls)
set_option maxHeartbeats 8000000 in
theorem stops_s (w0 : World) (B m : Nat) (Ls : List Asr) (most : Nat) (n : Int) (w : World) (S : St w0 w (Rdr w0 B m :: Ls)) (hm : m ≤ 900000) (hn : n ≤ 1000000) (h1 : 1 ≤ most) (h2 : most ≤ 16) :
    Calls Try.prog 45 #[.pointer (some ⟨B, 0, none⟩), .int .i64 (most : Int), .int .i64 n] w (StpQ w0 B m Ls) := by
  have S1 := (S.ownEmpty LPt).swap
  clear S
  go_enter Try.func45, Try.ntmps45
  go_wp2_with fail
  refine (pick_s w0 B _ _ (most : Int) _ S1 (by omega)).mono ?_
  rintro e w1 ⟨p, rfl, ⟨p0, p1, -⟩, S2⟩
  replace p1 := p1 (by omega)
  clear S1
  obtain ⟨K0, hK0⟩ : ∃ K0 : Nat, 1 + p = (K0 : Int) := ⟨(1 + p).toNat, by omega⟩
  have hK1 : 1 ≤ K0 := by omega
  have hK2 : K0 ≤ 16 := by omega
  have HK := Lib.hid hK0
  have S3 := S2.swap
  clear S2 hK0
  go_wp2_with fail
  rw [HK.out]
  clear HK p0 p1
  go_loopw [7, 8] (fun o i wr => ∃ (k m' : Nat) (xs : List Pt), k ≤ K0 ∧ i = .int .i64 (k : Int) ∧ RowKit.Hid (xs.length + k = K0) ∧ m' + 10 * k ≤ m + 1 + 10 * K0 ∧ St w0 wr (Own LPt o xs :: Rdr w0 B m' :: Ls)) (fun _ i _ => (intOf i).toNat)
  case atStart => exact ⟨K0, m + 1, [], by omega, rfl, by show ([] : List Pt).length + K0 = K0; simp, by omega, S3⟩
  case round =>
    obtain ⟨k, m', xs, hk, rfl, HX, hm', S4⟩ := hrel
    clear S3
    by_cases hlt : 0 < k
    · have hlt' : (0 : Int) < k := by omega
      have S5 := S4.swap
      have hxl : xs.length ≤ 16 := by have := HX.out; omega
      clear S4
      go_wp2_with fail
      refine (point_s w0 B _ _ 0 _ S5 (by omega) (by omega)).mono ?_
      rintro e w2 ⟨x, y, m2, rfl, -, -, hm2, S6⟩
      have S7 := S6.swap
      clear S5 S6
      go_wp2_with (at_builtin; refine wpList_app1 LPt_info rfl _ _ rfl S7 (⟨x, y⟩ : Pt) #[.int .i64 x, .int .i64 y] rfl rfl rfl (by omega) ?_; intro v' w3 S8)
      have HX2 : RowKit.Hid ((xs ++ [(⟨x, y⟩ : Pt)]).length + (k - 1) = K0) := by show _ = _; have := HX.out; simp; omega
      clear S7
      go_roundw
      case rel => exact ⟨k - 1, m2, _, by omega, by rw [show (((k - 1 : Nat)) : Int) = (k : Int) - 1 by omega], HX2, by omega, S8⟩
      case measure => simp [intOf]; omega
    obtain rfl : k = 0 := by omega
    have hxl : xs.length = K0 := by have := HX.out; omega
    have HXL := Lib.hid hxl
    have S5 := S4.swap
    clear S4 hxl
    go_wp2_with fail
    refine (odd_s w0 B _ _ n _ S5 (by omega) hn).mono ?_
    rintro e w2 ⟨od, rfl, S6⟩
    clear S5
    cases od with
    | false =>
      have S7 := S6.swap
      clear S6
      go_wp2
      go_ret
      exact ⟨_, xs, _, rfl, by have := HXL.out; omega, by omega, S7⟩
    | true =>
      go_wp2_with fail
      refine (pick_s w0 B _ _ 3 _ S6 (by omega)).mono ?_
      rintro e w3 ⟨c, rfl, ⟨c0, c1, -⟩, S7⟩
      replace c1 := c1 (by omega)
      clear S6
      by_cases hc0 : c = 0
      · subst hc0
        have S8 := (St.tail S7.swap).ownEmpty LPt
        clear S7
        go_wp2
        go_ret
        exact ⟨_, [], _, rfl, by simp, by omega, S8⟩
      by_cases hc2 : c = 2
      · subst hc2
        have S8 := St.tail S7.swap
        clear S7
        go_wp2_with (at_make; refine wpList_mk LPt_info rfl _ _ rfl S8 17 17 rfl rfl rfl (by omega) ?_; intro w6 S9 hg)
        clear S8 hg
        go_ret
        exact ⟨_, _, _, rfl, by simp, by omega, S9⟩
      obtain rfl : c = 1 := by omega
      clear hc0 hc2 c0 c1
      obtain ⟨oa, on, oc, rfl, hon⟩ := (St.own S7.swap).slice
      have hon1 : (0 : Int) < on := by have := HXL.out; omega
      have HON := Lib.hid hon
      clear hon
      go_wp2_with (go_at_call 63; refine (point_s w0 B _ _ 1 _ S7 (by omega) (by omega)).mono ?_; rintro e w4 ⟨x, y, m2, rfl, -, -, hm2, S8⟩; have S9 := S8.swap; obtain ⟨a1, n1, c1, hv1, -, -, HN1, HC1⟩ := LPt_own S9; simp only [Value.slice.injEq] at hv1; obtain ⟨rfl, rfl, rfl⟩ := hv1; obtain ⟨g, z, rfl, -, -, -, ⟨hd0, hd1⟩, hf⟩ := HC1.out 0 (by omega); rw [Nat.zero_mul] at hd0 hd1; have S10 := LPt_setAll S9 (g := g) rfl 0 ⟨x, y⟩ (by have := HXL.out; omega); rw [Nat.zero_mul] at S10; have SH := Lib.hid S10; clear S7 S8 S9 S10 HN1 HC1)
      go_ret
      exact ⟨_, _, _, rfl, by have := HXL.out; simp; omega, by omega, SH.out⟩
theorem DrawStopsValid_any (a : Option Addr) (len cap : Nat) (w : World) (h : Byts w a len cap) :
    Calls Try.prog 18 #[.slice a len cap] w fun e w' => ∃ v xs, e = .returned v ∧ xs.length ≤ 20 ∧ St w w' [Own LPt v xs] := by
  go_enter Try.func18, Try.ntmps18
  go_wp2_with fail
  refine (open_s a len cap w h).mono ?_
  rintro e w1 ⟨B, rfl, S1⟩
  go_wp2_with fail
  refine (stops_s w B 0 [] 9 2 _ S1 (by omega) (by omega) (by omega) (by omega)).mono ?_
  rintro e w2 ⟨v, xs, m', rfl, hl, -, S2⟩
  go_wp2_with fail
  go_ret
  exact ⟨v, xs, rfl, hl, St.drop1 (Ms := [_]) S2⟩
end Go.Proofs.Ythkleabdnjhniaa
