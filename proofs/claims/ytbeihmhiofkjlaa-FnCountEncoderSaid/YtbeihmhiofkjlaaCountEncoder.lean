/-
  FnCountEncoder: for every code the law on counts of signals returns true; nothing that was there is written. No condition.
-/
import Derived.Test.YtbeihmhiofkjlaaCountLaw
import Derived.Test.YtbeihmhiofkjlaaCountDraw
import Derived.Test.YtbeihmhiofkjlaaBridge
import Derived.Test.YtbeihmhiofkjlaaRows
import Derived.ProofKit
import Derived.OpenShut
import Derived.ShutString
import Derived.ChangeOld
namespace Go.Proofs.Ytbeihmhiofkjlaa
open Go Go.RowKit
set_option linter.unusedVariables false
def absI (n : Int) : Int := max n (-n)
theorem abs_s (n : Int) (w : World) (h : -1000000 ≤ n ∧ n ≤ 1000000) : Calls Try.prog 29 #[.int .i64 n] w fun e w' => e = .returned (.int .i64 (absI n)) ∧ w = w' := by
  obtain ⟨h1, h2⟩ := h
  go_enter Try.func29, Try.ntmps29
  go_wp2
  all_goals
    go_ret
    refine ⟨?_, rfl⟩
    show Ending.returned (Value.int _ _) = _
    congr 2
    unfold absI
    omega
theorem sigs_ex {xs : List Int} : sigs xs ↔ ∀ k, k < xs.length → 0 ≤ xs.getD k 0 ∧ xs.getD k 0 ≤ 3 := ⟨fun h k hk => sig_at h k hk, sigs_all⟩
theorem rds_cell {w : World} {b off n c : Nat} {xs : List Int} {k : Nat} {z : Int} (h : Rds LI w (.slice (some ⟨b, off, none⟩) n c) xs) (hz : xs[k]? = some z) : w.cell? ⟨b, off + k, none⟩ = some (.int .i64 z) := by
  obtain ⟨a', n', c', hv, -, -, HN, HC⟩ := LI_get h
  simp only [Value.slice.injEq] at hv
  obtain ⟨rfl, rfl, rfl⟩ := hv
  obtain ⟨b', off', z', hab, -, hz', hc⟩ := HC.out k (by rw [HN.out]; exact (List.getElem?_eq_some_iff.1 hz).1)
  obtain ⟨rfl, rfl⟩ : b = b' ∧ off = off' := by simpa using hab
  rw [hz'.out] at hz
  rw [← Option.some.inj hz]
  exact hc
theorem back_step {xs : List Int} {m : Nat} (hm : m + 1 < xs.length) : ((xs.take (xs.length - 1)).drop (m + 1)).reverse ++ [xs.getD m 0] = ((xs.take (xs.length - 1)).drop m).reverse := by
  have h1 : m < (xs.take (xs.length - 1)).length := by rw [List.length_take]; omega
  have e : (xs.take (xs.length - 1))[m] = xs.getD m 0 := by
    rw [List.getElem_take, List.getD_eq_getElem?_getD, List.getElem?_eq_getElem (by omega)]
    rfl
  rw [List.drop_eq_getElem_cons h1, List.reverse_cons, e]
set_option maxRecDepth 100000 in
set_option maxHeartbeats 8000000 in
theorem law_FnCountEncoder (a : Option Addr) (len cap : Nat) (w : World) (hw : Byts w a len cap) :
    Calls Try.prog 11 #[.slice a len cap] w fun e w' => e = .returned (.bool true) ∧ Below w.heap.size w w' := by
  have HB := Lib.hid hw; have hm : len ≤ 9223372036854775807 := (by have := hw.1; have := hw.2.1; unfold maxLen at this; omega); clear hw; by_cases hl : 1048576 < len; (go_enter Try.func11, Try.ntmps11; go_wp2_with fail; go_ret; exact ⟨rfl, Below.refl _ _⟩)
  go_enter Try.func11, Try.ntmps11
  go_wp2_with fail
  refine (DrawCountEncoder_any _ _ _ _ HB.out).mono ?_
  rintro e w1 ⟨f, u, xs, rfl, ⟨f0, f1⟩, o1, hx, g1⟩
  have S := (St.refl w).ofI o1 g1
  clear o1 g1
  obtain ⟨C, D, hCD⟩ : ∃ C D, encC f xs = (C, D) := ⟨_, _, rfl⟩
  obtain ⟨b1, b2, b3, b4, b5⟩ := enc_abs (f := f) (xs := xs)
  rw [hCD] at b1 b2 b3 b4 b5
  dsimp only at b1 b2 b3 b4 b5
  have HCD := Lib.hid hCD
  clear hCD
  go_wp2_with fail
  refine (i_CountEncoder _ _ _ _ (St.own S).ints).mono ?_
  rintro e w2 ⟨rfl, T⟩
  rw [HCD.out]
  replace S := S.grow T
  clear T
  go_wp2_with fail
  refine (s_CountEncoder _ _ _ _ (St.own S).ints).mono ?_
  rintro e w3 ⟨rfl, T⟩
  rw [HCD.out]
  replace S := S.grow T
  clear T
  obtain ⟨ua, un, uc, rfl, huc, hum, HUN, HC⟩ := LI_get (St.own S)
  have hun : un ≤ 20 := by have := HUN.out; omega
  rw [← HUN.out] at b1 b2 b3 b4
  have ABS : RowKit.Hid (-1000000 ≤ C ∧ C ≤ 1000000) := ⟨by omega, by omega⟩
  have hA : absI C + D ≤ un := by unfold absI; omega
  have hA0 : 0 ≤ absI C := by unfold absI; omega
  have hA1 : absI C ≤ 100 := by unfold absI; omega
  obtain ⟨A, hAA⟩ : ∃ A, A = absI C := ⟨_, rfl⟩
  rw [← hAA] at hA hA0 hA1
  have HAA := Lib.hid hAA
  clear hAA b1 b2 b3 b4
  have hf3 : decide (0 ≤ f) = true := by simpa using f0
  by_cases hf : f ≤ 3 <;> (
    go_wp2
    go_loop [9, 10] (fun g i => ∃ (k : Nat) (M : Bool), k ≤ un ∧ i = .int .i64 k ∧ g = .bool M ∧ RowKit.Hid (M = true ↔ (f ≤ 3 ∧ ∀ j, j < k → 0 ≤ xs.getD j 0 ∧ xs.getD j 0 ≤ 3))) (fun _ i => un - (intOf i).toNat)
    case atStart => exact ⟨0, decide (f ≤ 3), by omega, rfl, by simp [hf], by show _ ↔ _; simp⟩
    case round =>
      obtain ⟨k, M, hk, rfl, rfl, HM⟩ := hrel
      by_cases hlt : k < un
      · obtain ⟨b, off, x, rfl, hb, hx', hc⟩ := HC.out k hlt
        have hxd : xs.getD k 0 = x := by rw [List.getD_eq_getElem?_getD, hx'.out]; rfl
        have HM2 : RowKit.Hid ((M && (decide (0 ≤ x) && decide (x ≤ 3))) = true ↔ (f ≤ 3 ∧ ∀ j, j < k + 1 → 0 ≤ xs.getD j 0 ∧ xs.getD j 0 ≤ 3)) := by
          show _ ↔ _
          rw [Bool.and_eq_true, Bool.and_eq_true, decide_eq_true_iff, decide_eq_true_iff, HM.out]
          constructor
          · rintro ⟨⟨h1, h2⟩, h3, h4⟩
            refine ⟨h1, fun j hj => ?_⟩
            by_cases hjk : j < k
            · exact h2 j hjk
            · obtain rfl : j = k := by omega
              rw [hxd]
              exact ⟨h3, h4⟩
          · rintro ⟨h1, h2⟩
            have := h2 k (by omega)
            rw [hxd] at this
            exact ⟨⟨h1, fun j hj => h2 j (by omega)⟩, this⟩
        have i0 : (k : Int) < un := by omega
        clear HM hx' hxd
        cases M with
        | false =>
          go_wp2
          go_round
          case rel => exact ⟨k + 1, _, by omega, by go_num, rfl, HM2⟩
          case measure => simp [intOf]; omega
        | true =>
          by_cases hx0 : 0 ≤ x
          · by_cases hx3 : x ≤ 3
            · have q : (true && (decide (0 ≤ x) && decide (x ≤ 3))) = true := by simp [hx0, hx3]
              rw [q] at HM2
              clear q
              go_wp2
              go_round
              case rel => exact ⟨k + 1, _, by omega, by go_num, rfl, HM2⟩
              case measure => simp [intOf]; omega
            · have q : (true && (decide (0 ≤ x) && decide (x ≤ 3))) = false := by simp [hx3]
              rw [q] at HM2
              clear q
              go_wp2
              go_round
              case rel => exact ⟨k + 1, _, by omega, by go_num, rfl, HM2⟩
              case measure => simp [intOf]; omega
          · have q : (true && (decide (0 ≤ x) && decide (x ≤ 3))) = false := by simp [hx0]
            rw [q] at HM2
            clear q
            go_wp2
            go_round
            case rel => exact ⟨k + 1, _, by omega, by go_num, rfl, HM2⟩
            case measure => simp [intOf]; omega
      obtain rfl : k = un := by omega
      by_cases hbad : M = false ∨ k < 2
      · have HBAD := Lib.hid hbad
        clear HM hbad
        cases M with
        | false =>
          go_wp2_with (first
            | (go_at_call 29; refine (abs_s _ _ ABS.out).mono ?_; rintro e w' ⟨rfl, rfl⟩; rw [← HAA.out])
            | (go_at_call 21; refine (alive_any _).mono ?_; rintro e w' ⟨rfl, rfl⟩))
          go_ret
          exact ⟨rfl, S.below⟩
        | true =>
          have hk2 : k < 2 := by rcases HBAD.out with h | h; cases h; exact h
          go_wp2_with (first
            | (go_at_call 29; refine (abs_s _ _ ABS.out).mono ?_; rintro e w' ⟨rfl, rfl⟩; rw [← HAA.out])
            | (go_at_call 21; refine (alive_any _).mono ?_; rintro e w' ⟨rfl, rfl⟩))
          go_ret
          exact ⟨rfl, S.below⟩
      have hM : M = true := by cases M; exact absurd (.inl rfl) hbad; rfl
      have hk2 : 2 ≤ k := by omega
      subst hM
      obtain ⟨hfs, hsg⟩ := HM.out.1 rfl
      first
      | exact absurd hfs (by omega)
      | (have hsig : sigs xs := sigs_all (fun j hj => hsg j (by rw [HUN.out]; exact hj))
         have hxl : xs.length ≤ 199 := by have := HUN.out; omega
         obtain ⟨h, hh⟩ : ∃ h, h = k / 2 := ⟨_, rfl⟩
         have hh1 : 1 ≤ h := by omega
         have hhk : h < k := by omega
         have SP := enc_split (f := f) (by omega) ⟨f0, hfs⟩ hsig h (by omega) (by rw [← HUN.out]; exact hhk)
         have TU := enc_turned (f := f) hxl ⟨f0, hfs⟩ hsig (by rw [← HUN.out]; omega)
         rw [HCD.out] at SP TU
         dsimp only at SP TU
         obtain ⟨X, E, hXE⟩ : ∃ X E, encC f (xs.take h) = (X, E) := ⟨_, _, rfl⟩
         obtain ⟨Y, F, hYF⟩ : ∃ Y F, encC (xs.getD (h - 1) 0) (xs.drop h) = (Y, F) := ⟨_, _, rfl⟩
         obtain ⟨Z, G, hZG⟩ : ∃ Z G, encC (xs.getD (xs.length - 1) 0) ((xs.take (xs.length - 1)).reverse ++ [f]) = (Z, G) := ⟨_, _, rfl⟩
         rw [hXE, hYF] at SP
         rw [hZG] at TU
         dsimp only at SP TU
         have aX := enc_abs (f := f) (xs := xs.take h)
         have aY := enc_abs (f := xs.getD (h - 1) 0) (xs := xs.drop h)
         rw [hXE] at aX
         rw [hYF] at aY
         dsimp only at aX aY
         rw [List.length_take] at aX
         rw [List.length_drop] at aY
         have hXb : -100 ≤ X ∧ X ≤ 100 := by omega
         have hEb : 0 ≤ E ∧ E ≤ 100 := by omega
         have hYb : -100 ≤ Y ∧ Y ≤ 100 := by omega
         have hFb : 0 ≤ F ∧ F ≤ 100 := by omega
         obtain ⟨SP1, SP2⟩ := SP
         obtain ⟨TU1, TU2⟩ := TU
         subst SP1 SP2 TU1 TU2
         have HXE := Lib.hid hXE
         have HYF := Lib.hid hYF
         have HZG := Lib.hid hZG
         have HSG := Lib.hid hsig
         clear aX aY hXE hYF hZG hsig hsg HM hbad HCD
         have E0 : RowKit.Hid ((k : Int) / 2 = (h : Int)) := by show _ = _; omega
         have I1 : RowKit.Hid (IntKind.i64.wrap ((h : Int) - 1) = ((h - 1 : Nat) : Int)) := by show _ = _; rw [IntWalk.i64_in _ (by omega)]; omega
         have R1 : RowKit.Hid (Ints w3 (.slice ua (k / 2) uc) (xs.take h)) := by rw [← hh]; exact (Rds.take (St.own S) h (by omega)).ints
         have hhc : h ≤ uc := by omega
         have hh2 : h ≤ 10 := by omega
         have HHH := Lib.hid hh
         clear hh
         go_wp2_with fail
         refine (i_CountEncoder _ _ _ _ R1.out).mono ?_
         rintro e w4 ⟨rfl, T⟩
         rw [HXE.out, E0.out]
         replace S := S.grow T
         clear T R1
         obtain ⟨ua', un', uc', hv', -, -, HN4, HC4⟩ := LI_get (St.own S)
         simp only [Value.slice.injEq] at hv'
         obtain ⟨rfl, rfl, rfl⟩ := hv'
         obtain ⟨b, off, x, rfl, hb, hx1, hc1⟩ := HC4.out (h - 1) (by omega)
         have R2 : RowKit.Hid (Ints w4 (.slice (some ⟨b, off + h, none⟩) (k - h) (uc - h)) (xs.drop h)) := by
           have := (Rds.drop (St.own S) h (by omega)).ints
           rwa [show off + h * LI.s = off + h from by rw [show LI.s = 1 from rfl, Nat.mul_one]] at this
         have hx2 : RowKit.Hid (x = xs.getD (h - 1) 0) := by show _ = _; rw [List.getD_eq_getElem?_getD, hx1.out]; rfl
         have i2 : (0 : Int) ≤ ((h - 1 : Nat) : Int) := by omega
         have i3 : ((h - 1 : Nat) : Int) < (k : Int) := by omega
         have i4 : (0 : Int) ≤ (h : Int) := by omega
         have i5 : (h : Int) ≤ (k : Int) := by omega
         have i6 : (k : Int) ≤ (uc : Int) := by omega
         have i7 : ¬ uc = h := by omega
         have YF2 : RowKit.Hid (encC x (xs.drop h) = (Y, F)) := by show _ = _; rw [hx2.out]; exact HYF.out
         clear hx1 HC4 HC HN4
         have i1 := I1.out
         go_wp2_with fail
         go_region_held3 (fun w' => w'.cell? ⟨b, off + (h - 1), none⟩ = some (.int .i64 x)) (first | exact hc1 | exact gb_cell T5 hc1 (by simp) | go_keep)
           ((go_at_call 26; (refine (i_CountEncoder _ _ _ _ (Ints.kept R2.out (gb_drew (World.grownBy.refl _ _)))).mono ?_); rintro e w5 ⟨rfl, T5⟩; rw [YF2.out]))
         clear i1
         replace S := S.grow (gb_trans (gb_drew (World.grownBy.refl _ _)) T5)
         obtain ⟨H5, hH5⟩ : ∃ H, H = w5.heap.size := ⟨_, rfl⟩
         have S2 := S.ownEmptyAt LI H5 hH5
         rw [show ([] : List Int) = ((xs.take (xs.length - 1)).drop (k - 1)).reverse by rw [List.drop_eq_nil_of_le (by rw [List.length_take, ← HUN.out]; omega)]; rfl] at S2
         have HH5 := Lib.hid hH5
         clear hH5 S T5
         go_wp2_with fail
         rw [← HH5.out]
         go_loopw [16, 17] (fun bk i wr => ∃ (m : Nat) (I : Int), m ≤ k - 1 ∧ I + 1 = (m : Int) ∧ i = .int .i64 I ∧ St w wr [Own LI bk ((xs.take (xs.length - 1)).drop m).reverse, Own LI (.slice (some ⟨b, off, none⟩) k uc) xs]) (fun _ i _ => (intOf i + 1).toNat)
         case atStart => exact ⟨k - 1, (k : Int) - 2, by omega, by omega, rfl, S2⟩
         case round =>
           obtain ⟨m, I, hm', hI, rfl, S3⟩ := hrel
           clear S2
           by_cases hlt : 0 ≤ I
           · obtain ⟨M, rfl⟩ := Int.eq_ofNat_of_zero_le hlt
             obtain rfl : m = M + 1 := by omega
             obtain ⟨ua', un', uc', hv', -, -, -, HC5⟩ := LI_get (St.own (St.tail S3))
             simp only [Value.slice.injEq] at hv'
             obtain ⟨rfl, rfl, rfl⟩ := hv'
             obtain ⟨b', off', z, hab, hb', hz, hcz⟩ := HC5.out M (by omega)
             obtain ⟨rfl, rfl⟩ : b = b' ∧ off = off' := by simpa using hab
             have hzz : RowKit.Hid (xs.getD M 0 = z) := by show _ = _; rw [List.getD_eq_getElem?_getD, hz.out]; rfl
             have hbl : (((xs.take (xs.length - 1)).drop (M + 1)).reverse).length ≤ 1000000000 := by rw [List.length_reverse, List.length_drop, List.length_take, ← HUN.out]; omega
             have j1 : (M : Int) < k := by omega
             have BS := Lib.hid (back_step (xs := xs) (m := M) (by rw [← HUN.out]; omega))
             clear HC5 hz hab
             go_wp2_with (at_builtin; refine wpList_app1 LI_info rfl _ _ rfl S3 z #[.int .i64 z] rfl rfl rfl hbl ?_; intro v6 w6 S4)
             rw [← hzz.out, BS.out] at S4
             clear S3
             go_roundw
             case rel => exact ⟨M, (M : Int) - 1, by omega, by omega, rfl, S4⟩
             case measure => (simp [intOf]; try omega)
           · obtain rfl : m = 0 := by omega
             rw [List.drop_zero] at S3
             obtain ⟨ua', un', uc', hv', -, -, -, HC5⟩ := LI_get (St.own (St.tail S3))
             simp only [Value.slice.injEq] at hv'
             obtain ⟨rfl, rfl, rfl⟩ := hv'
             obtain ⟨b', off', z, hab, hb', hz, hcz⟩ := HC5.out (k - 1) (by omega)
             obtain ⟨rfl, rfl⟩ : b = b' ∧ off = off' := by simpa using hab
             have hzz : RowKit.Hid (encC z ((xs.take (xs.length - 1)).reverse ++ [f]) = (-(X + Y), E + F)) := by
               have e : z = xs.getD (xs.length - 1) 0 := by rw [← HUN.out, List.getD_eq_getElem?_getD, hz.out]; rfl
               show _ = _
               rw [e]
               exact HZG.out
             have hbl : ((xs.take (xs.length - 1)).reverse).length ≤ 1000000000 := by rw [List.length_reverse, List.length_take, ← HUN.out]; omega
             have J1 : RowKit.Hid (IntKind.i64.wrap ((k : Int) - 1) = ((k - 1 : Nat) : Int)) := by show _ = _; rw [IntWalk.i64_in _ (by omega)]; omega
             have j2 : (0 : Int) ≤ ((k - 1 : Nat) : Int) := by omega
             have j3 : ((k - 1 : Nat) : Int) < (k : Int) := by omega
             have HZ := Lib.hid hz.out
             clear HC5 hz hab
             have hwz := hcz
             go_wp2_with fail
             have j1 := J1.out
             go_region_held3 (fun w' => w'.cell? ⟨b, off + (k - 1), none⟩ = some (.int .i64 z)) (first | exact hcz | exact gb_cell (row := none) (gb_drew (World.grownBy_alloc _ _ _)) hcz (by simp) | exact rds_cell (St.own (St.tail S8)) HZ.out | exact gb_cell T9 (rds_cell (St.own (St.tail S8)) HZ.out) (by simp) | go_keep)
               (first
                 | (refine step_app1 LI_info rfl _ _ rfl (S3.alloc _).drew f ⟨wr.heap.size, 0, none⟩ #[.int .i64 f] rfl rfl rfl ⟨rfl, rfl, heap_alloc_at _ _ _ rfl⟩ hbl ?_; intro v8 w8 S8)
                 | (go_at_call 26; (refine (i_CountEncoder _ _ _ _ (St.own S8).ints).mono ?_); rintro e w9 ⟨rfl, T9⟩; rw [hzz.out]))
             clear j1
             have S9 := S8.grow T9
             have k1 : -(X + Y) = -(X + Y) := rfl
             go_wp2_with (go_at_call 29; refine (abs_s _ _ ABS.out).mono ?_; rintro e w' ⟨rfl, rfl⟩; rw [← HAA.out])
             go_ret
             exact ⟨rfl, S9.below⟩))
end Go.Proofs.Ytbeihmhiofkjlaa
namespace Go.Proofs.Ytbeihmhiofkjlaa.fnCountEncoderDone
open Go Go.ChangeShapes Go.WideShapes Go.ChangeAt Go.RowKit Go.Proofs.Ytbeihmhiofkjlaa
set_option linter.unusedVariables false
theorem own : ownKnob Try.prog.godebug = none := by kernel_rfl
theorem laidOut : laidOutB Try.prog = true := by kernel_rfl
set_option maxRecDepth 100000 in
theorem lifted (os : Os) (started : os.Started) (H : Type) (enc : TypeId × Value → H) :
    ReturnsInHanded {} Try.checked os 11 .any (Rows.fnCountEncoderSpec.pre6 enc Try.prog Try.f11 Rows.fnCountEncoderRow.domain false) (Rows.fnCountEncoderSpec.post enc Try.prog Try.f11 false true false false) := by
  refine returnsInHanded_of_change (C := Try.checked) own started (by kernel_rfl) Try.func11
    (ChangeSpec.witness6 (enc := enc) (C := Try.checked) false ⟨#[], #[.slice none 0 0], []⟩ 8 (by kernel_rfl) (by kernel_rfl) (by kernel_rfl) (by kernel_rfl)) ?_
  intro W base args ds gs before hval0 hW hcnd _
  have hval : ∀ (j : Nat) t v, Try.f11.params[j]? = some t → args[j]? = some v → Value.okWide Try.prog W .any base t v := hval0
  have hW' := hW
  obtain ⟨p, q, hA0, hV, rfl, hfz, hnd⟩ := hW
  have hA : DataW.TrodAll enc Try.prog W 0 (fun _ => true) true Try.f11.params.toList args.toList ds p := hA0
  rw [Try.params11] at hA hval
  obtain ⟨v0, vs0, d0, ds0, p0, q0, hargs, rfl, rfl, h0, r0⟩ := trodAll_cons hA
  obtain ⟨rfl, rfl, rfl⟩ := trodAll_nil r0
  obtain rfl : args = #[v0] := by cases args; simp_all
  obtain ⟨rfl, rfl⟩ := trodVars_none hV
  obtain ⟨a0, len0, cap0, rfl⟩ := okWide_slice Try.underlying26 (hval 0 26 v0 rfl rfl)
  have k0 := h0
  have lt0 : ∀ x ∈ p0, x.block < W.heap.size := by obtain ⟨m, hm⟩ := k0; exact DataW.trod_lt m _ _ _ hm
  have w0 : Byts W a0 len0 cap0 := by
    obtain ⟨fuel, hf⟩ := h0
    rcases open_ints Try.underlying26 Try.underlying5 (by kernel_rfl) hf with ⟨hcs, _⟩ | ⟨x, l, c, zs, hcs, _, hl, hm, hz, _, hcell, hwz⟩
    · simp [Value.cells] at hcs
      obtain ⟨rfl, rfl, rfl⟩ := hcs
      exact byts_nil W
    · simp [Value.cells] at hcs
      obtain ⟨rfl, rfl, rfl⟩ := hcs
      exact byts_of hl hm (by simpa using hz) hcell hwz
  clear hA0 hval0
  refine (law_FnCountEncoder a0 len0 cap0 W w0).mono fun e W' ⟨he, bel⟩ => ?_
  subst he
  exact ⟨_, rfl, _, _, _, [], _, [], hW', trodAll_mk1 (shut_bool Try.underlying4 _), (trodAll_cons_mk (Below.trod laidOut (by kernel_rfl) (of_decide_eq_true (by kernel_rfl)) k0 bel lt0) trodAll_mk0), rfl, bel.frame _, fun h => by cases h⟩
theorem over : Rows.fnCountEncoderRow.holds Try.pinned (OpenSpec.ofChange Rows.fnCountEncoderSpec) :=
  OpenClaim.holds_of_wide 11 Try.f11 rfl rfl rfl rfl rfl rfl rfl ⟨rfl, rfl, rfl, rfl, rfl⟩ rfl rfl rfl rfl rfl (by kernel_rfl) Try.func11 (by kernel_rfl)
    (of_decide_eq_true (by kernel_rfl)) (by unfold Func.isWrapper; first | (rw [if_pos (by decide +kernel)]; kernel_rfl) | (rw [if_neg (by decide +kernel)]; exact ⟨rfl, rfl⟩))
    (fun os started H enc _ => lifted os started H enc)
theorem proved : Rows.FnCountEncoderSaid := over
#print axioms proved
end Go.Proofs.Ytbeihmhiofkjlaa.fnCountEncoderDone
