/-
  impl.expand and impl.ExpandProgram.
-/
import Derived.Test.YtbhelobahfgaeaaForest
namespace Go.Proofs.Ytbhelobahfgaeaa
open Go Go.RowKit
def ExpQ (w : World) (E : List Cmd) (q : Nat) (e : Ending) (w' : World) : Prop :=
  (okL E = true ∧ ∃ (r : Value) (Q : Int), e = .returned (.tuple #[r, .int .i64 Q, .bool true]) ∧ Q = (q : Int) ∧ St w w' [Own LCmd r E]) ∨ (okL E = false ∧ ∃ (r : Value) (Q : Int), e = .returned (.tuple #[r, .int .i64 Q, .bool false]) ∧ w.grownBy w' none)
theorem okL_no {E : List Cmd} (h : 500 < E.length) : okL E = false := decide_eq_false (by omega)
theorem drop_get {α : Type} {xs : List α} {k : Nat} {c : α} {l : List α} (h : xs.drop k = c :: l) : xs[k]? = some c ∧ xs.drop (k + 1) = l ∧ k < xs.length := by
  have h1 : (xs.drop k)[0]? = some c := by rw [h]; rfl
  rw [List.getElem?_drop, Nat.add_zero] at h1
  obtain ⟨hk, rfl⟩ := List.getElem?_eq_some_iff.1 h1
  rw [List.drop_eq_getElem_cons hk] at h
  exact ⟨h1, (List.cons.inj h).2, hk⟩
theorem drop_add {α : Type} {xs : List α} {k : Nat} {a l : List α} (h : xs.drop k = a ++ l) : xs.drop (k + a.length) = l := by
  rw [← List.drop_drop, h, List.drop_left]
theorem flat_bound {xs : List Cmd} {k : Nat} {a l : List Cmd} (h : xs.drop k = a ++ l) (hk : k ≤ xs.length) : k + a.length ≤ xs.length := by
  have := congrArg List.length h
  rw [List.length_drop, List.length_append] at this
  omega
set_option maxHeartbeats 8000000 in
theorem expand_s : ∀ (N : Nat) (F : Fo) (xs : List Cmd) (p : Nat) (P : Int) (post : List Cmd) (v : Value) (w : World), F.size = N → F.wf → xs.drop p = F.flat ++ post → Ends post → p ≤ xs.length → xs.length ≤ 30 → P = (p : Int) → Rds LCmd w v xs → Calls Try.prog 29 #[v, .int .i64 P] w (ExpQ w F.exp (p + F.flat.length)) := by
  intro N
  induction N using Nat.strongRecOn with
  | _ N ih =>
  intro F xs p P post v w hN hwf hdr hend hp hx hP hv
  have IH := Lib.hid ih
  have HV := Lib.hid hv
  obtain ⟨a, n, cap, rfl, h1, hm, HN, HC⟩ := LCmd_get hv
  have HE := Lib.hid hend
  have HX := Lib.hid hx
  subst hP
  have hn : n ≤ 30 := by rw [HN.out]; exact hx
  have hpn : p ≤ n := by rw [HN.out]; exact hp
  have ST0 : St w w [Own LCmd (.slice none 0 0) []] := (St.refl w).ownNil LCmd
  obtain ⟨E, hE⟩ : ∃ E, RowKit.Hid (E = F.exp) := ⟨_, rfl⟩
  obtain ⟨q, hq⟩ : ∃ q, RowKit.Hid (q = p + F.flat.length) := ⟨_, rfl⟩
  rw [← hE.out, ← hq.out]
  have HDR : RowKit.Hid (xs.drop p = F.flat ++ post) := hdr
  have HWF := Lib.hid hwf
  have HSZ : RowKit.Hid (F.size ≤ N) := by show _ ≤ _; omega
  clear ih hv hend hx hdr hwf hN hp
  go_enter Try.func29, Try.ntmps29
  go_wp2_with fail
  go_loopw [1, 7] (fun at_ ov wr => ∃ (G : Fo) (k : Nat) (acc : List Cmd), at_ = .int .i64 k ∧ k ≤ n ∧ RowKit.Hid (xs.drop k = G.flat ++ post) ∧ RowKit.Hid (E = acc ++ G.exp) ∧ RowKit.Hid G.wf ∧ RowKit.Hid (G.size ≤ N) ∧ RowKit.Hid (k + G.flat.length = q) ∧ acc.length ≤ 500 + k ∧ St w wr [Own LCmd ov acc]) (fun at_ _ _ => n - (intOf at_).toNat)
  case atStart => exact ⟨F, p, [], rfl, hpn, HDR, (show _ = _ by rw [hE.out]; rfl), HWF, HSZ, (show _ = _ by rw [hq.out]), by simp, ST0⟩
  case round =>
    clear HDR HWF HSZ hE hq ST0 hpn
    obtain ⟨G, k, acc, rfl, hkn, HD, HEX, HW, HS, HQ, hal, S⟩ := hrel
    obtain ⟨oa, on, oc, rfl, hoc, hom, HON, -⟩ := LCmd_own S
    cases G with
    | nil =>
      have hE2 : RowKit.Hid (E = acc) := by have := HEX.out; rw [Fo.exp, List.append_nil] at this; exact this
      have hQ2 : k = q := by have := HQ.out; simpa [Fo.flat] using this
      have fin : ∀ wz, St w wz [Own LCmd (.slice oa on oc) acc] → ∀ B : Bool, okL acc = B → ExpQ w E q (.returned (.tuple #[.slice oa on oc, .int .i64 (k : Int), .bool B])) wz := by
        intro wz Sz B hB
        rw [hE2.out]
        cases B with
        | true => exact Or.inl ⟨hB, _, _, rfl, by rw [hQ2], Sz⟩
        | false => exact Or.inr ⟨hB, _, _, rfl, Sz.gb⟩
      have HF := Lib.hid fin
      have hok : RowKit.Hid (okL acc = decide (on ≤ 500)) := by show _ = _; rw [okL, ← HON.out]
      clear fin hE2 hQ2 HEX HW HS HQ IH
      have hDR : xs.drop k = post := by have := HD.out; simpa [Fo.flat] using this
      by_cases hlt : k < n
      rotate_left
      · clear hDR HD
        by_cases h5 : on ≤ 500
        · have h5' : (on : Int) ≤ 500 := by omega
          go_wp2_with fail
          exact bodyPost_ret (v := .tuple #[.slice oa on oc, .int .i64 (k : Int), .bool true]) (by simp [results, Try.results29, go_sem]) rfl (HF.out _ S true (by rw [hok.out, decide_eq_true h5]))
        · have h5' : ¬ (on : Int) ≤ 500 := by omega
          go_wp2_with fail
          exact bodyPost_ret (v := .tuple #[.slice oa on oc, .int .i64 (k : Int), .bool false]) (by simp [results, Try.results29, go_sem]) rfl (HF.out _ S false (by rw [hok.out, decide_eq_false h5]))
      obtain ⟨b, off, c, rfl, hb, hxk, c0, c1, c2⟩ := HC.out k hlt
      have c0' := gb_cell S.gb c0 (by simp)
      have hc6 : c.Kind = 6 := HE.out c (by
        have h := hxk.out
        rw [← hDR, List.getElem?_drop, Nat.add_zero]
        exact h)
      rw [hc6] at c0'
      have hlt' : (k : Int) < (n : Int) := by omega
      have hk0 : (0 : Int) ≤ (k : Int) := by omega
      clear hDR HD hxk c0 c1 c2 hc6
      by_cases h5 : on ≤ 500
      · have h5' : (on : Int) ≤ 500 := by omega
        go_wp2_with fail
        exact bodyPost_ret (v := .tuple #[.slice oa on oc, .int .i64 (k : Int), .bool true]) (by simp [results, Try.results29, go_sem]) rfl (HF.out _ S true (by rw [hok.out, decide_eq_true h5]))
      · have h5' : ¬ (on : Int) ≤ 500 := by omega
        go_wp2_with fail
        exact bodyPost_ret (v := .tuple #[.slice oa on oc, .int .i64 (k : Int), .bool false]) (by simp [results, Try.results29, go_sem]) rfl (HF.out _ S false (by rw [hok.out, decide_eq_false h5]))
    | one c r =>
      obtain ⟨hxk, hdr2, hkl⟩ := drop_get (c := c) (l := r.flat ++ post) (by have := HD.out; simpa [Fo.flat] using this)
      have hlt : k < n := by rw [HN.out]; exact hkl
      obtain ⟨b, off, c', rfl, hb, hxk', c0, c1, c2⟩ := HC.out k hlt
      obtain rfl : c' = c := by have := hxk'.out; rw [hxk] at this; exact (Option.some.inj this).symm
      obtain ⟨q1, q2, q3, q4⟩ := HW.out
      obtain ⟨K, A, B⟩ := c'
      dsimp only at c0 c1 c2 q2 q3
      have c0' := gb_cell S.gb c0 (by simp)
      have c1' := gb_cell S.gb c1 (by simp)
      have c2' := gb_cell S.gb c2 (by simp)
      have e5 : (K == 5) = false := beq_eq_false_iff_ne.2 q2
      have e6 : (K == 6) = false := beq_eq_false_iff_ne.2 q3
      have hlt' : (k : Int) < (n : Int) := by omega
      have hk0 : (0 : Int) ≤ (k : Int) := by omega
      have HD2 : RowKit.Hid (xs.drop (k + 1) = r.flat ++ post) := hdr2
      have HEX2 : RowKit.Hid (E = (acc ++ [⟨K, A, B⟩]) ++ r.exp) := by show _ = _; rw [HEX.out, Fo.exp, List.append_assoc]; rfl
      have HW2 : RowKit.Hid r.wf := q4
      have HS2 : RowKit.Hid (r.size ≤ N) := by have := HS.out; simp only [Fo.size] at this; show _ ≤ _; omega
      have HQ2 : RowKit.Hid (k + 1 + r.flat.length = q) := by have := HQ.out; simp only [Fo.flat, List.length_cons] at this; show _ = _; omega
      have hnl : acc.length ≤ 1000000000 := by omega
      have S1 := S.grow (gb_alloc (World.grownBy.refl wr none) (.cells #[.int .i64 K, .int .i64 A, .int .i64 B] 33))
      clear HD HEX HW HS HQ q1 q2 q3 q4 hdr2 hkl hxk hxk' c0 c1 c2 S IH
      go_wp2_with (at_builtin; refine wpList_app1 LCmd_info rfl _ _ rfl S1 (⟨K, A, B⟩ : Cmd) #[.int .i64 K, .int .i64 A, .int .i64 B] rfl rfl (by simp [Act.eval]) hnl ?_; intro v' w5 S5; clear S1)
      go_roundw
      case rel => exact ⟨r, k + 1, acc ++ [⟨K, A, B⟩], by go_num, by omega, HD2, HEX2, HW2, HS2, HQ2, by simp; omega, S5⟩
      case measure => simp [intOf]; omega
    | rep c e bd r =>
      obtain ⟨hxk, hdr2, hkl⟩ := drop_get (c := c) (l := bd.flat ++ (e :: (r.flat ++ post))) (by have := HD.out; simpa [Fo.flat] using this)
      have hlt : k < n := by rw [HN.out]; exact hkl
      obtain ⟨b, off, c', rfl, hb, hxk', c0, c1, c2⟩ := HC.out k hlt
      obtain rfl : c' = c := by have := hxk'.out; rw [hxk] at this; exact (Option.some.inj this).symm
      obtain ⟨q1, q2, q3, q4, q5, q6⟩ := HW.out
      obtain ⟨hA1, hA2⟩ := cmdB_rep q1 q3
      obtain ⟨K, A, B⟩ := c'
      dsimp only at c0 c1 c2 q3 hA1 hA2
      subst q3
      obtain ⟨AN, rfl⟩ := Int.eq_ofNat_of_zero_le (show 0 ≤ A by omega)
      have c0' := gb_cell S.gb c0 (by simp)
      have c1' := gb_cell S.gb c1 (by simp)
      have c2' := gb_cell S.gb c2 (by simp)
      have hlt' : (k : Int) < (n : Int) := by omega
      have hk0 : (0 : Int) ≤ (k : Int) := by omega
      have g0 := gb_alloc (World.grownBy.refl wr none) (.cells #[.int .i64 5, .int .i64 (AN : Int), .int .i64 B] 33)
      have S1 := S.grow g0
      have d1 : (wr.alloc (.cells #[.int .i64 5, .int .i64 (AN : Int), .int .i64 B] 33)).cell? ⟨wr.heap.size, 1, none⟩ = some (.int .i64 (AN : Int)) := by simp [go_sem]
      have hss := HS.out
      simp only [Fo.size] at hss
      have hends : Ends (e :: (r.flat ++ post)) := by intro c hc; simp at hc; rw [← hc]; exact q4
      have REC := IH.out bd.size (by omega) bd xs (k + 1) ((k : Int) + 1) (e :: (r.flat ++ post)) (.slice (some ⟨b, off, none⟩) n cap) _ rfl q5 hdr2 hends (by omega) HX.out (by omega) (HV.out.kept (gb_trans S.gb g0))
      have hdr3 : xs.drop (k + 1 + bd.flat.length) = e :: (r.flat ++ post) := drop_add hdr2
      obtain ⟨-, hdr4, hkl4⟩ := drop_get hdr3
      have HD2 : RowKit.Hid (xs.drop (k + 1 + bd.flat.length + 1) = r.flat ++ post) := hdr4
      have HEX2 : RowKit.Hid (E = (acc ++ (List.replicate AN bd.exp).flatten) ++ r.exp) := by show _ = _; rw [HEX.out, Fo.exp, List.append_assoc]; rfl
      have HW2 : RowKit.Hid r.wf := q6
      have HS2 : RowKit.Hid (r.size ≤ N) := by show _ ≤ _; omega
      have HQ2 : RowKit.Hid (k + 1 + bd.flat.length + 1 + r.flat.length = q) := by have := HQ.out; simp only [Fo.flat, List.length_cons, List.length_append] at this; show _ = _; omega
      have hbn : k + 1 + bd.flat.length + 1 ≤ n := by rw [HN.out]; omega
      have EL : RowKit.Hid (E.length = acc.length + (AN * bd.exp.length + r.exp.length)) := by show _ = _; rw [HEX2.out]; simp [Nat.add_assoc]
      obtain ⟨fl, hfl⟩ : ∃ fl, fl = bd.flat.length := ⟨_, rfl⟩
      rw [← hfl] at HD2 HQ2 hbn REC
      clear HD HEX HW HS HQ q1 q4 q5 q6 hdr2 hkl hxk hxk' c0 c1 c2 S IH hss hends hdr3 hdr4 hkl4 hfl
      generalize bd.exp = be at REC HEX2 EL
      go_wp2_with fail
      refine REC.mono ?_
      rintro e1 w3 (⟨hok, rb, Q, rfl, rfl, Sb⟩ | ⟨hok, rb, Q, rfl, gb⟩)
      rotate_left
      · have NO : RowKit.Hid (okL E = false) := by
          have h1 := EL.out
          simp only [okL, decide_eq_false_iff_not] at hok
          have h2 : 1 * be.length ≤ AN * be.length := Nat.mul_le_mul_right _ (by omega)
          exact okL_no (by omega)
        have G3 := gb_trans S1.gb gb
        clear REC hok d1 S1
        go_wp2_with fail
        exact bodyPost_ret (v := .tuple #[.slice none 0 0, .int .i64 0, .bool false]) (by simp [results, Try.results29, go_sem]) rfl (Or.inr ⟨NO.out, _, _, rfl, G3⟩)
      have S2 := (S1.call Sb)
      have d1' := gb_cell Sb.gb d1 (by simp)
      obtain ⟨ra, rn, rc, rfl, -, -, HRN, -⟩ := LCmd_get (St.own Sb)
      clear REC d1 S1 Sb
      have hr5 : rn ≤ 500 := by rw [HRN.out]; simpa [okL] using hok
      obtain ⟨M, hM⟩ : ∃ M : Nat, M = AN * rn := ⟨_, rfl⟩
      have hMi : ((AN : Int) * (rn : Int)) = (M : Int) := by rw [hM]; simp
      have hMb : M ≤ 99 * 500 := by rw [hM]; exact Nat.mul_le_mul (by omega) hr5
      have EL2 : RowKit.Hid (E.length = on + (M + r.exp.length)) := by show _ = _; rw [EL.out, ← HON.out, hM, HRN.out]
      have HMM := Lib.hid hM
      have hon : on ≤ 530 := by rw [HON.out]; omega
      clear EL hM hok
      by_cases h5 : on + M ≤ 500
      rotate_left
      · have h5' : 500 < (on : Int) + (M : Int) := by omega
        have NO : RowKit.Hid (okL E = false) := by
          have h1 := EL2.out
          exact okL_no (by omega)
        have G3 := S2.gb
        clear S2 EL2
        go_wp2_with fail
        exact bodyPost_ret (v := .tuple #[.slice none 0 0, .int .i64 0, .bool false]) (by simp [results, Try.results29, go_sem]) rfl (Or.inr ⟨NO.out, _, _, rfl, G3⟩)
      have h5' : ¬ 500 < (on : Int) + (M : Int) := by omega
      go_wp2_with fail
      have S3 : St w w3 [Own LCmd (.slice oa on oc) (acc ++ (List.replicate 0 be).flatten), Own LCmd (.slice ra rn rc) be] := by
        rw [List.replicate_zero, List.flatten_nil, List.append_nil]
        exact St.swap S2
      have LEN : RowKit.Hid (∀ j, j ≤ AN → (acc ++ (List.replicate j be).flatten).length + be.length ≤ 1099511627776) := by
        intro j hj
        rw [List.length_append, rep_len, ← HRN.out]
        have h2 : j * rn ≤ AN * rn := Nat.mul_le_mul_right _ hj
        have h3 := HMM.out
        omega
      clear S2 d1' hMi EL2
      go_loopw [7, 59] (fun ov i wr => ∃ j : Nat, j ≤ AN ∧ i = .int .i64 j ∧ St w wr [Own LCmd ov (acc ++ (List.replicate j be).flatten), Own LCmd (.slice ra rn rc) be]) (fun _ i _ => AN - (intOf i).toNat)
      case atStart => exact ⟨0, by omega, rfl, S3⟩
      case round =>
        obtain ⟨j, hjn, rfl, S4⟩ := hrel
        clear S3
        by_cases hltj : j < AN
        rotate_left
        · obtain rfl : j = AN := by omega
          have S5 := S4.drop1 (Ms := [_])
          have HAL : (acc ++ (List.replicate j be).flatten).length ≤ 500 + (k + 1 + fl + 1) := by
            rw [List.length_append, rep_len, ← HRN.out, ← HMM.out, ← HON.out]
            omega
          have HALH := Lib.hid HAL
          clear S4 LEN HAL
          go_wp2_with fail
          go_roundw
          case rel => exact ⟨r, k + 1 + fl + 1, acc ++ (List.replicate j be).flatten, by go_num, by omega, HD2, HEX2, HW2, HS2, HQ2, HALH.out, S5⟩
          case measure => simp [intOf]; omega
        obtain ⟨va, vn, vc, hvv, hvc1, hvc2, -, -⟩ := LCmd_own S4
        subst hvv
        have RB := St.own (S4.tail)
        have hl := Lib.hid (LEN.out j hjn)
        have hji : (j : Int) < (AN : Int) := by omega
        have SUC := Lib.hid (rep_succ j be)
        go_wp2_with (at_builtin; refine wpList_appR LCmd_info rfl _ _ rfl S4 be _ RB rfl rfl hl.out ?_; intro v6 w6 S6; rw [List.append_assoc, ← SUC.out] at S6; clear S4 RB)
        go_roundw
        case rel => exact ⟨j + 1, by omega, by go_num, S6⟩
        case measure => simp [intOf]; omega
set_option maxHeartbeats 2000000 in
theorem i_ExpandProgram (v : Value) (xs : List Cmd) (w : World) (hv : Rds LCmd w v xs) :
    Calls Try.prog 16 #[v] w fun e w' => ∃ r, e = .returned (.tuple #[r, .bool (expandOk xs)]) ∧ St w w' [Own LCmd r (expandL xs)] := by
  have H := i_ProgramValid v xs w hv
  cases hB : progB xs with
  | false =>
    rw [hB] at H
    have h1 : expandOk xs = false := by rw [expandOk, hB]; rfl
    have h2 : expandL xs = [] := by rw [expandL, h1]; rfl
    rw [h1, h2]
    clear hB h1 h2
    go_enter Try.func16, Try.ntmps16
    go_wp2_with fail
    refine H.mono ?_
    rintro e w1 ⟨rfl, g1⟩
    go_wp2_with fail
    exact bodyPost_ret (v := .tuple #[.slice none 0 0, .bool false]) (by simp [results, Try.results16, go_sem]) rfl ⟨_, rfl, ((St.refl w).grow g1).ownNil LCmd⟩
  | true =>
    rw [hB] at H
    obtain ⟨hw, hf⟩ := parseF_ok hB
    have hl := progB_len hB
    have REC : RowKit.Hid (∀ w1, w.grownBy w1 none → Calls Try.prog 29 #[v, .int .i64 0] w1 (ExpQ w1 (parseF xs).exp (0 + (parseF xs).flat.length))) := fun w1 g => expand_s _ (parseF xs) xs 0 0 [] v w1 rfl hw (by rw [hf]; simp) Ends.nil (by omega) hl rfl (hv.kept g)
    have h1 : expandOk xs = okL (parseF xs).exp := by rw [expandOk, hB]; rfl
    have h2 : expandL xs = if okL (parseF xs).exp then (parseF xs).exp else [] := by rw [expandL, h1]
    rw [h1, h2]
    generalize (parseF xs).exp = E at REC ⊢
    clear hB hw hf hl h1 h2
    cases hq : okL E with
    | true =>
      go_enter Try.func16, Try.ntmps16
      go_wp2_with fail
      refine H.mono ?_
      rintro e w1 ⟨rfl, g1⟩
      go_wp2_with fail
      refine (REC.out w1 g1).mono ?_
      rintro e1 w3 (⟨hok, rb, Q, rfl, -, Sb⟩ | ⟨hok, rb, Q, rfl, gb⟩)
      · have S2 : St w w3 ([Own LCmd rb E] ++ []) := ((St.refl w).grow g1).call Sb
        rw [List.append_nil] at S2
        go_wp2_with fail
        exact bodyPost_ret (v := .tuple #[rb, .bool true]) (by simp [results, Try.results16, go_sem]) rfl ⟨_, rfl, S2⟩
      · rw [hq] at hok; cases hok
    | false =>
      go_enter Try.func16, Try.ntmps16
      go_wp2_with fail
      refine H.mono ?_
      rintro e w1 ⟨rfl, g1⟩
      go_wp2_with fail
      refine (REC.out w1 g1).mono ?_
      rintro e1 w3 (⟨hok, rb, Q, rfl, -, Sb⟩ | ⟨hok, rb, Q, rfl, gb⟩)
      · rw [hq] at hok; cases hok
      · have G := gb_trans g1 gb
        go_wp2_with fail
        exact bodyPost_ret (v := .tuple #[.slice none 0 0, .bool false]) (by simp [results, Try.results16, go_sem]) rfl ⟨_, rfl, ((St.refl w).grow G).ownNil LCmd⟩
end Go.Proofs.Ytbhelobahfgaeaa
