/-
  The draw of a picture: at most 11 rows of at most 11 samples, or 17 empty ones.
-/
import Derived.Test.YtpkcpkhanodnmaaBoolSS
namespace Go.Proofs.Ytpkcpkhanodnmaa
open Go Go.RowKit
def ImgQ (w0 : World) (B m : Nat) (Ls : List Asr) (e : Ending) (w' : World) : Prop :=
  ∃ (v : Value) (ys : List (List Bool)) (m' : Nat), e = .returned v ∧ ys.length ≤ 17 ∧ total ys ≤ 200 ∧ m' ≤ m + 200 ∧ St w0 w' (DOwn LSB DB v ys :: Rdr w0 B m' :: Ls)
theorem total_append {γ : Type} (a b : List (List γ)) : total (a ++ b) = total a + total b := by simp [total]
theorem total_set_le {γ : Type} (ys : List (List γ)) (k : Nat) (y z : List γ) (hy : ys[k]? = some y) : total (ys.set k z) ≤ total ys + z.length := by
  induction ys generalizing k with
  | nil => simp at hy
  | cons a ys ih =>
    cases k with
    | zero => simp [total]; omega
    | succ k =>
      have := ih k (by simpa using hy)
      simp [total] at *
      omega
set_option maxHeartbeats 8000000 in
theorem image_s (w0 : World) (B m : Nat) (Ls : List Asr) (n : Int) (w : World) (S : St w0 w (Rdr w0 B m :: Ls)) (hm : m ≤ 900000) (hn : n ≤ 1000000) :
    Calls Try.prog 49 #[.pointer (some ⟨B, 0, none⟩), .int .i64 n] w (ImgQ w0 B m Ls) := by
  go_enter Try.func49, Try.ntmps49
  go_wp2_with fail
  refine (pick_s w0 B _ Ls 10 _ S (by omega)).mono ?_
  rintro e w1 ⟨pw, rfl, ⟨pw0, pw1, -⟩, S1⟩
  replace pw1 := pw1 (by omega)
  clear S
  go_wp2_with fail
  refine (pick_s w0 B _ Ls 10 _ S1 (by omega)).mono ?_
  rintro e w2 ⟨ph, rfl, ⟨ph0, ph1, -⟩, S2⟩
  replace ph1 := ph1 (by omega)
  clear S1
  go_wp2_with fail
  refine (pick_s w0 B _ Ls 4 _ S2 (by omega)).mono ?_
  rintro e w3 ⟨pd, rfl, ⟨pd0, pd1, -⟩, S3⟩
  replace pd1 := pd1 (by omega)
  clear S2
  obtain ⟨W, hW⟩ : ∃ W : Nat, 1 + pw = (W : Int) := ⟨(1 + pw).toNat, by omega⟩
  obtain ⟨H, hH⟩ : ∃ H : Nat, 1 + ph = (H : Int) := ⟨(1 + ph).toNat, by omega⟩
  have hW10 : W ≤ 10 := by omega
  have hW1 : 1 ≤ W := by omega
  have hH10 : H ≤ 10 := by omega
  have hH1 : 1 ≤ H := by omega
  have HW := Lib.hid hW
  have HH := Lib.hid hH
  clear hW hH
  go_wp2_with fail
  rw [HW.out, HH.out]
  have S4 : St w0 (w3.alloc (.cells #[] 39)) (DOwn LSB DB (.slice (some ⟨w3.heap.size, 0, none⟩) 0 0) [] :: Rdr w0 B (m + 1 + 1 + 1) :: Ls) := S3.downEmpty (L := LSB) (D := DB)
  clear S3 HW HH pw0 pw1 ph0 ph1
  go_loopw [8, 9, 10, 11] (fun o i _ _ wr => ∃ (k m' : Nat) (ys : List (List Bool)), k ≤ H ∧ i = .int .i64 k ∧ RowKit.Hid (ys.length = k) ∧ RowKit.Hid (∀ y ∈ ys, y.length ≤ 10) ∧ m' ≤ m + 3 + 10 * k ∧ St w0 wr (DOwn LSB DB o ys :: Rdr w0 B m' :: Ls)) (fun _ i _ _ _ => H - (intOf i).toNat)
  case atStart => exact ⟨0, _, [], by omega, rfl, rfl, (by intro y hy; cases hy), by omega, S4⟩
  case round =>
    obtain ⟨k, m', ys, hk, rfl, HY, HT, hm', S5⟩ := hrel
    clear S4
    by_cases hlt : k < H
    · have S6 : St w0 (wr.alloc (.cells #[] 4)) (Own LB (.slice (some ⟨wr.heap.size, 0, none⟩) 0 0) [] :: DOwn LSB DB u8 ys :: Rdr w0 B m' :: Ls) := S5.ownEmpty LB
      clear S5
      go_wp2
      obtain ⟨o, rfl⟩ : ∃ o, o = u8 := ⟨_, rfl⟩
      go_loopw [10, 11] (fun u i wr => ∃ (j m'' : Nat) (row : List Bool), j ≤ W ∧ i = .int .i64 j ∧ RowKit.Hid (row.length = j) ∧ m'' ≤ m + 3 + 10 * k + j ∧ St w0 wr (Own LB u row :: DOwn LSB DB o ys :: Rdr w0 B m'' :: Ls)) (fun _ i _ => W - (intOf i).toNat)
      case atStart => exact ⟨0, m', [], by omega, rfl, rfl, by omega, S6⟩
      case round =>
        obtain ⟨j, m'', row, hj, rfl, HR, hm'', S7⟩ := hrel
        clear S6
        by_cases hlt2 : j < W
        · have S8 := St.rot S7
          go_wp2_with fail
          refine (pick_s w0 B _ _ 5 _ S8 (by omega)).mono ?_
          rintro e w4 ⟨q, rfl, ⟨q0, q1, -⟩, S9⟩
          replace q1 := q1 (by omega)
          have S10 := S9.perm ((List.Perm.swap _ _ _).trans ((List.Perm.swap _ _ _).cons _))
          clear S7 S8 S9
          go_wp2_with (at_builtin; refine wpList_app1 LB_info rfl _ _ rfl S10 (decide (1 + pd ≤ q)) #[.bool (decide (1 + pd ≤ q))] rfl rfl rfl (by have := HR.out; omega) ?_; intro v' w5 S11)
          have HR2 : RowKit.Hid ((row ++ [decide (1 + pd ≤ q)]).length = j + 1) := by show _ = _; have := HR.out; simp; omega
          clear S10
          go_roundw
          case rel => exact ⟨j + 1, _, _, by omega, by go_num, HR2, by omega, S11⟩
          case measure => simp [intOf]; omega
        · obtain ⟨ua, un, uc, rfl, -⟩ := (St.own S7).slice
          have S8 := S7.swap
          have hl := HY.out
          have hyl : ys.length ≤ 1000000000 := by omega
          clear S7 hl
          go_wp2_with (at_builtin; refine wpList_drow1 LSB_info rfl _ _ rfl S8 rfl rfl hyl ?_; intro v' w5 S9)
          have HY2 : RowKit.Hid ((ys ++ [row]).length = k + 1) := by show _ = _; have := HY.out; simp; omega
          have HT2 : RowKit.Hid (∀ y ∈ ys ++ [row], y.length ≤ 10) := by
            intro y hy
            rcases List.mem_append.1 hy with hy | hy
            · exact HT.out y hy
            · rw [List.mem_singleton] at hy
              subst hy
              have := HR.out
              omega
          clear S8
          go_roundw
          case rel => exact ⟨k + 1, m'', _, by omega, by go_num, HY2, HT2, by omega, S9⟩
          case measure => simp [intOf]; omega
    obtain rfl : k = H := by omega
    have TOT : RowKit.Hid (total ys ≤ 10 * ys.length) := by
      have h := HT.out
      clear HT HY S5
      show total ys ≤ 10 * ys.length
      induction ys with
      | nil => simp [total]
      | cons y ys ih =>
        have h1 := h y List.mem_cons_self
        have h2 := ih (fun z hz => h z (List.mem_cons_of_mem _ hz))
        simp [total] at *
        omega
    have S6 := S5.swap
    clear S5
    go_wp2_with fail
    refine (odd_s w0 B _ _ n _ S6 (by omega) hn).mono ?_
    rintro e w4 ⟨od, rfl, S7⟩
    clear S6
    cases od with
    | false =>
      have S8 := S7.swap
      clear S7
      go_wp2
      go_ret
      exact ⟨_, ys, _, rfl, by have := HY.out; omega, by have := HY.out; have := TOT.out; omega, by omega, S8⟩
    | true =>
      go_wp2_with fail
      refine (pick_s w0 B _ _ 3 _ S7 (by omega)).mono ?_
      rintro e w5 ⟨c, rfl, ⟨c0, c1, -⟩, S8⟩
      replace c1 := c1 (by omega)
      have S9 := S8.swap
      clear S7 S8
      by_cases h2 : c = 2
      · subst h2
        have S10 := St.tail S9
        clear S9
        go_wp2_with (at_make; refine wpList_mk LSB_info rfl _ _ rfl S10 17 17 rfl rfl rfl (by omega) ?_; intro w6 S11 hg)
        have S12 := St.downRep (D := DB) (none, 0, 0) [] 17 (fun h => h.ownNil LB) S11
        clear S10 S11 hg
        go_ret
        exact ⟨_, _, _, rfl, by simp, by simp [total], by omega, S12⟩
      by_cases h1 : c = 1
      · subst h1
        have S10 : St w0 (w5.alloc (.cells #[] 39)) (DOwn LSB DB (.slice (some ⟨w5.heap.size, 0, none⟩) 0 0) [] :: Rdr w0 B (m' + 1 + 1) :: Ls) := (St.tail S9).downEmpty (L := LSB) (D := DB)
        clear S9
        go_wp2
        go_ret
        exact ⟨_, [], _, rfl, by simp, by simp [total], by omega, S10⟩
      obtain rfl : c = 0 := by omega
      clear h1 h2 c0 c1
      obtain ⟨K, rfl⟩ : ∃ K, k = K + 1 := ⟨k - 1, by omega⟩
      obtain ⟨y, hy⟩ : ∃ y, ys[K]? = some y := ⟨_, List.getElem?_eq_getElem (by have := HY.out; omega)⟩
      obtain ⟨oa, on, oc, rfl, hon1, hon2, HON, -⟩ := (St.drds S9).rows
      have hon : on = K + 1 := by rw [HON.out, HY.out]
      subst hon
      obtain ⟨xs, ⟨ra, rn, rc⟩, R, hx, hl, S10, hre⟩ := St.focus S9 K y hy
      have S11 : St w0 w5 (Own LSB (.slice oa (K + 1) oc) xs :: (R ++ Rdr w0 B (m' + 1 + 1) :: Ls)) := St.tail S10
      obtain ⟨a2, n2, c2, hv2, -, -, HN2, HC2⟩ := S11.ownGet1 (c := fun x => Value.slice x.1 x.2.1 x.2.2) rfl (fun _ => rfl)
      simp only [Value.slice.injEq] at hv2
      obtain ⟨rfl, rfl, rfl⟩ := hv2
      obtain ⟨g, x, rfl, hg1, hg2, hx2, hcell, hfz⟩ := HC2.out K (by omega)
      obtain rfl : x = (ra, rn, rc) := by have := hx2.out; rw [hx] at this; exact (Option.some.inj this).symm
      dsimp only at hcell
      have eK : ((K + 1 : Nat) : Int) - 1 = (K : Int) := by omega
      have ylen : y.length ≤ 10 := HT.out y (List.mem_of_getElem? hy)
      have S12 : St w0 w5 (Own LB (.slice ra rn rc) y :: (Own LSB (.slice (some ⟨g, 0, none⟩) (K + 1) oc) xs :: (R ++ Rdr w0 B (m' + 1 + 1) :: Ls))) := S10
      have HX := Lib.hid hx
      have HKK : RowKit.Hid (K < xs.length) := (List.getElem?_eq_some_iff.1 hx).1
      have HRE := Lib.hid hre
      have HTS := Lib.hid (total_set_le ys K y (y ++ [true]) hy)
      have HYL := Lib.hid ylen
      clear S9 S10 S11 HN2 HC2 hx2 hx hre hy hl
      go_wp2_with (first
        | (at_builtin; refine wpList_app1 LB_info rfl _ _ rfl S12 true #[.bool true] rfl rfl rfl (by omega) ?_; intro v' w6 S13
           obtain ⟨va, vn, vc, rfl, -⟩ := (St.own S13).slice
           have hcell6 := St.ownCell (St.swap S13) (g := g) rfl K _ HX.out 0 _ rfl
           rw [show (LSl 39).s = 1 from rfl, Nat.mul_one, Nat.add_zero] at hcell6
           have hfz6 := St.ownFrozen (St.swap S13) (g := g) rfl K
           have S14 := St.setAt1 (c := fun x => Value.slice x.1 x.2.1 x.2.2) rfl (fun _ => rfl) (St.swap S13) (g := g) rfl K (va, vn, vc) (.slice va vn vc) rfl HKK.out
           have S15 := HRE.out _ _ (va, vn, vc) (y ++ [true]) (Rdr w0 B (m' + 1 + 1) :: Ls) rfl (St.swap S14)
           have S16 : St w0 ((w6.setCell ⟨g, K, none⟩ (.slice va vn vc)).alloc (.cells #[.bool true] 4)) (Own LB (.slice (some ⟨w6.heap.size, 0, none⟩) 1 1) [true] :: DOwn LSB DB (.slice (some ⟨g, 0, none⟩) (K + 1) oc) (ys.set K (y ++ [true])) :: Rdr w0 B (m' + 1 + 1) :: Ls) := by
             have := S15.ownLit LB [true] #[.bool true] rfl (by unfold maxLen; simp)
             rw [show (w6.setCell ⟨g, K, none⟩ (.slice va vn vc)).heap.size = w6.heap.size by simp] at this
             exact this
           have S17 := Lib.hid S16.swap
           clear S12 S13 S14 S15 S16 hcell hfz)
        | (at_builtin; refine wpList_drow1 LSB_info rfl _ _ rfl S17.out rfl (by simp [Act.eval]) (by rw [List.length_set]; have := HY.out; omega) ?_; intro v' w7 S18))
      go_ret
      exact ⟨_, _, _, rfl, by have := HY.out; simp; omega, by have h1 := HTS.out; have h2 := TOT.out; have h3 := HY.out; have h4 := HYL.out; rw [total_append]; simp [total] at *; omega, by omega, S18⟩
end Go.Proofs.Ytpkcpkhanodnmaa
