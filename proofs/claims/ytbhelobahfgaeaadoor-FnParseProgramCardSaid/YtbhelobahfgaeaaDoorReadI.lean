/-
  impl.readCommand.
-/
import Derived.Test.YtbhelobahfgaeaaDoorReadLaw
import Derived.Test.YtbhelobahfgaeaaDoorEnv
import Derived.Test.YtbhelobahfgaeaaDoorShelfP
import Derived.Test.YtbhelobahfgaeaaDoorStringS
import Derived.Test.YtbhelobahfgaeaaDoorLoc
import Derived.Test.YtbhelobahfgaeaaDoorDeep
import Derived.Test.YtbhelobahfgaeaaDoorBlk
import Derived.Test.YtbhelobahfgaeaaDoorDrawn3
import Derived.Lib.AtoiErrMem
namespace Go.Proofs.YtbhelobahfgaeaaDoor
open Go Go.RowKit
set_option linter.unusedVariables false
theorem atoi_s (s : ByteArray) (w : World) (E : Env w) (hl : s.size ≤ 281474976710656) :
    Calls Tryd.prog 49 #[.string s] w fun e w' => ∃ (n : Int) (ev : Value), e = .returned (.tuple #[.int .i64 n, ev]) ∧ (∀ v, vI s.data.toList = some v → n = v ∧ ev = .nilIface) ∧ (vI s.data.toList = none → ∃ p, ev = .iface 83 (.pointer (some p))) ∧ w.grownBy w' none := by
  unfold vI
  cases h : Lib.atoiAll s.data.toList with
  | ok v =>
    refine (Tryd.strconv_Atoi_ok s (by omega) v h w).mono ?_
    rintro e w' ⟨rfl, hw⟩
    refine ⟨v, _, rfl, fun u hu => ?_, (by intro hu; cases hu), ?_⟩
    · obtain rfl := Option.some.inj hu
      exact ⟨rfl, rfl⟩
    · rcases hw with rfl | ⟨t, rfl⟩
      · exact World.grownBy.refl _ _
      · exact below_gb (Lib.bytesWorld_below _ _ _)
  | «syntax» =>
    obtain ⟨tp, p, hv⟩ := E.esyn
    refine (Tryd.strconv_Atoi_syntax_var s hl h tp p w hv).mono ?_
    rintro e w' ⟨N, rfl, -, -, hb⟩
    exact ⟨_, _, rfl, (by intro u hu; cases hu), (fun _ => ⟨_, rfl⟩), below_gb hb⟩
  | range =>
    obtain ⟨tp, p, hv⟩ := E.erng
    refine (Tryd.strconv_Atoi_range_var s hl h tp p w hv).mono ?_
    rintro e w' ⟨N, rfl, -, -, hb⟩
    exact ⟨_, _, rfl, (by intro u hu; cases hu), (fun _ => ⟨_, rfl⟩), below_gb hb⟩
theorem LS_flat (xs : List ByteArray) : LS.flat xs = xs.map Value.string := by
  unfold Lay.flat
  induction xs with
  | nil => rfl
  | cons x xs ih => simp only [List.flatMap_cons, List.map_cons, ih]; rfl
theorem split_s (s : ByteArray) (w : World) (E : Env w) (hs : s.size ≤ 4294967200) :
    Calls Tryd.prog 48 #[.string s, .string ⟨#[32]⟩] w fun e w' => ∃ r, e = .returned r ∧ St w w' [Own LS r (wordsB s)] := by
  obtain ⟨m, hm⟩ := E.maxl
  refine (Tryd.strings_Split s ⟨#[32]⟩ m w (by omega) hm (by decide)).mono ?_
  rintro e w' ⟨rfl, rfl⟩
  have hl : (wordsB s).length = Lib.countB s ⟨#[32]⟩ + 1 := Lib.splitB_all sp (by decide) 0 _ s rfl
  have hle := Lib.countB_le ⟨#[32]⟩ (by decide) _ s (Nat.le_refl _)
  have S := (St.refl w).ownLit LS (wordsB s) ((wordsB s).map Value.string).toArray (by rw [LS_flat]) (by rw [hl]; unfold maxLen; omega)
  rw [hl] at S
  exact ⟨_, rfl, S⟩
def cmdV : Option Cmd → Value
  | some c => .agg #[.int .i64 c.Kind, .int .i64 c.A, .int .i64 c.B]
  | none => .agg #[.int .i64 0, .int .i64 0, .int .i64 0]
def ReadQ (w : World) (o : Option Cmd) (e : Ending) (w' : World) : Prop := e = .returned (.tuple #[cmdV o, .bool o.isSome]) ∧ w.grownBy w' none
set_option maxRecDepth 20000 in
set_option maxHeartbeats 1000000 in
theorem i_read (s : ByteArray) (w : World) (E : Env w) (hs : s.size ≤ 4294967200) : Calls Tryd.prog 34 #[.string s] w (ReadQ w (readI s)) := by
  have S0 := (St.refl w).loc #[.int .i64 0, .int .i64 0, .int .i64 0] 47
  have g0 := S0.gb
  have SP := split_s s _ (E.grow g0) hs
  obtain ⟨w0, ws, hws⟩ : ∃ w0 ws, wordsB s = w0 :: ws := by
    cases h : wordsB s with
    | nil => have := wordsB_data s; rw [h] at this; exact absurd this.symm (spl_ne _ _)
    | cons a t => exact ⟨a, t, rfl⟩
  have NUM : RowKit.Hid (∀ j, j ≤ ws.length → numsP vI ws j = none → readI s = none) := by
    intro j hj h
    have := numsP_none h ws.length hj
    unfold readI
    rw [hws]
    simp only [this]
  have FIN : RowKit.Hid (∀ A B, numsP vI ws ws.length = some (A, B) → readI s = if cmdB ⟨kindTo 6 w0, A, B⟩ = true ∧ lineB ⟨kindTo 6 w0, A, B⟩ = s then some ⟨kindTo 6 w0, A, B⟩ else none) := by
    intro A B h
    unfold readI
    rw [hws]
    simp only [h]
  have WSZ : RowKit.Hid (∀ (j : Nat) wd, ws[j]? = some wd → wd.size ≤ 4294967200) := fun j wd h => Nat.le_trans (wordsB_size (by rw [hws]; exact List.mem_cons_of_mem _ (List.mem_of_getElem? h))) hs
  rw [hws] at SP
  clear hws
  obtain ⟨H0, hH0⟩ : ∃ H0, H0 = w.heap.size := ⟨_, rfl⟩
  rw [← hH0] at S0
  go_enter Tryd.func34, Tryd.ntmps34
  go_wp2_with fail
  rw [← hH0]
  clear hH0
  refine SP.mono ?_
  rintro e w2 ⟨r, rfl, T⟩
  have S1 := S0.call T
  clear T SP S0
  simp only [List.cons_append, List.nil_append] at S1
  obtain ⟨gw, cap, rfl, hc1, hc2⟩ := S1.ownBlk (by simp)
  obtain ⟨H2, hH2⟩ : ∃ H2, H2 = w2.heap.size := ⟨_, rfl⟩
  have S2 := S1.loc #[.int .i64 0, .int .i64 0, .int .i64 0] 47
  rw [← hH2] at S2
  obtain ⟨n, hn⟩ : ∃ n, n = (w0 :: ws).length := ⟨_, rfl⟩
  rw [← hn] at S2 hc1 ⊢
  have HN := Lib.hid hn
  have hn1 : 1 ≤ n := by rw [hn]; simp
  clear S1 hn
  go_wp2_with fail
  rw [← hH2]
  clear hH2
  have S3 : St w (w2.alloc (.cells #[.int .i64 0, .int .i64 0, .int .i64 0] 47)) [Loc H2 47 #[.int .i64 (kindTo 0 w0), .int .i64 0, .int .i64 0], Own LS (.slice (some ⟨gw, 0, none⟩) n cap) (w0 :: ws), Loc H0 47 #[.int .i64 0, .int .i64 0, .int .i64 0]] := S2
  clear S2
  go_loopw [6] (fun i wr => ∃ k : Nat, k ≤ 6 ∧ i = .int .i64 ((k : Int) + 1) ∧ St w wr [Loc H2 47 #[.int .i64 (kindTo k w0), .int .i64 0, .int .i64 0], Own LS (.slice (some ⟨gw, 0, none⟩) n cap) (w0 :: ws), Loc H0 47 #[.int .i64 0, .int .i64 0, .int .i64 0]]) (fun i _ => 8 - (intOf i).toNat)
  case atStart => exact ⟨0, by omega, rfl, S3⟩
  case round =>
    obtain ⟨k, hk, rfl, S⟩ := hrel
    clear S3
    by_cases hlt : k < 6
    · have hki : (k : Int) + 1 ≤ 6 := by omega
      have NM := Lib.hid (fun d os => name_s (k + 1) (by omega) (Go.Sort.grow (redrawn wr d) os))
      rw [show (((k + 1 : Nat)) : Int) = (k : Int) + 1 by omega] at NM
      have cw := St.ownCell (St.tail S) (g := gw) rfl 0 w0 rfl 0 _ rfl
      have cw1 : wr.cell? ⟨gw, 0, none⟩ = some (.string w0) := cw
      have cw2 := qcell cw1
      have hn0 : 0 < n := by omega
      have hn0i : (0 : Int) < (n : Int) := by omega
      by_cases he : bt (nameL (k + 1)) = w0
      · have e1 : kindTo (k + 1) w0 = (k : Int) + 1 := by rw [kindTo, if_pos he]; omega
        rw [he] at NM
        have SH := Lib.hid S
        clear S he cw
        go_wp2_with fail
        (refine wp_region_quiet_below (by kernel_rfl) (by kernel_rfl) ?_; (repeat (go_big_quiet_step ((with_reducible exact qc0 (NM.out _ _))))); refine wpQuiet_nil ?_; intro _ hw'; obtain ⟨⟨dq, osq⟩, hw''⟩ := hw'; subst hw'')
        have S4 := SH.out.grow (qg wr dq osq)
        have hl := (St.locLt S4).2
        have hf := St.locFrozen S4 0
        have hc := St.locCell S4 0 _ rfl
        have S5 := S4.locSet 0 (.int .i64 ((k : Int) + 1))
        have S6 : St w ((Go.Sort.grow (redrawn wr dq) osq).setCell ⟨H2, 0, none⟩ (.int .i64 ((k : Int) + 1))) [Loc H2 47 #[.int .i64 (kindTo (k + 1) w0), .int .i64 0, .int .i64 0], Own LS (.slice (some ⟨gw, 0, none⟩) n cap) (w0 :: ws), Loc H0 47 #[.int .i64 0, .int .i64 0, .int .i64 0]] := by rw [e1]; exact S5
        have SH6 := Lib.hid S6
        clear S4 S5 S6 SH
        go_wp2
        go_roundw
        case rel => exact ⟨k + 1, by omega, by go_num, SH6.out⟩
        case measure => simp [intOf]; omega
      · have e1 : kindTo (k + 1) w0 = kindTo k w0 := by rw [kindTo, if_neg he]
        have SH : RowKit.Hid (St w wr [Loc H2 47 #[.int .i64 (kindTo (k + 1) w0), .int .i64 0, .int .i64 0], Own LS (.slice (some ⟨gw, 0, none⟩) n cap) (w0 :: ws), Loc H0 47 #[.int .i64 0, .int .i64 0, .int .i64 0]]) := by show St _ _ _; rw [e1]; exact S
        generalize bt (nameL (k + 1)) = NB at NM he
        have he2 := str_ne he
        clear S cw e1
        go_wp2_with fail
        (refine wp_region_quiet_below (by kernel_rfl) (by kernel_rfl) ?_; (repeat (go_big_quiet_step ((with_reducible exact qc0 (NM.out _ _))))); refine wpQuiet_nil ?_; intro _ hw'; obtain ⟨⟨dq, osq⟩, hw''⟩ := hw'; subst hw'')
        have S4 := SH.out.grow (qg wr dq osq)
        go_wp2
        go_roundw
        case rel => exact ⟨k + 1, by omega, by go_num, S4⟩
        case measure => simp [intOf]; omega
    · have hk6 : k = 6 := by omega
      have hgt : ¬ ((k : Int) + 1 ≤ 6) := by omega
      rw [hk6] at S
      have HK6 := Lib.hid hk6
      clear hk6 hk
      obtain ⟨H3, hH3⟩ : ∃ H3, H3 = wr.heap.size := ⟨_, rfl⟩
      have S4 := S.loc #[.int .i64 0, .int .i64 0] 67
      rw [← hH3] at S4
      have RET : RowKit.Hid (∀ (W : World), w.grownBy W none → readI s = none → ReadQ w (readI s) (.returned (.tuple #[.agg #[.int .i64 0, .int .i64 0, .int .i64 0], .bool false])) W) := by
        intro W g h
        rw [h]
        exact ⟨rfl, g⟩
      clear S
      by_cases hcp : cap = 1
      · obtain rfl : n = 1 := by omega
        subst hcp
        obtain ⟨K, hK⟩ : ∃ K, K = kindTo 6 w0 := ⟨_, rfl⟩
        rw [← hK] at S4 FIN
        have S : St w (wr.alloc (.cells #[.int .i64 0, .int .i64 0] 67)) [Loc H3 67 #[.int .i64 0, .int .i64 0], Loc H2 47 #[.int .i64 K, .int .i64 0, .int .i64 0], Own LS (.slice (some ⟨gw, 0, none⟩) 1 1) (w0 :: ws), Loc H0 47 #[.int .i64 0, .int .i64 0, .int .i64 0]] := S4
        have HWL : RowKit.Hid (ws.length = 0) := by have := HN.out; simp at this; show _ = _; rw [this]; rfl
        have HP : RowKit.Hid (numsP vI ws 0 = some (0, 0)) := rfl
        clear S4 hK
        go_wp2_with fail
        rw [← hH3]
        clear hH3
        refine wp_loop_rounds 2 ?_
        rw [rounds_succ]
        have FN := Lib.hid (FIN.out 0 0 (by rw [HWL.out]; exact HP.out))
        clear FIN HP NUM
        go_wp2_with fail
        refine wp_drawn_put3 (shp [some (.pointer (some ⟨H3, 0, none⟩)), some (.int .i64 0), some (.pointer (some ⟨H3, 1, none⟩)), some (.int .i64 0), some (.pointer (some ⟨H2, 1, none⟩)), none, some (.pointer (some ⟨H2, 2, none⟩)), none]) (fun D S w' => St w w' [Loc H3 67 #[.int .i64 0, .int .i64 0], Loc H2 47 #[.int .i64 K, .int .i64 (if D 5 then 0 else 0), .int .i64 (if D 7 then 0 else 0)], Own LS (.slice (some ⟨gw, 0, none⟩) 1 1) (w0 :: ws), Loc H0 47 #[.int .i64 0, .int .i64 0, .int .i64 0]]) (by kernel_rfl) (by kernel_rfl) (S.drew) ?_ ?_
        · refine step_plain3 rfl (fun D a w hD hB hL hJ hd hs K hK => ?_) ?_
          · have e7 : a.tmps[7]?.getD undef = .pointer (some ⟨H3, 0, none⟩) := hs.at 7 (by kernel_rfl)
            clear hB hL hD hd hs
            have HJ := Lib.hid hJ
            clear hJ
            go_simp
            exact hK.out _ _ rfl HJ.out (fun _ _ h => h)
          refine step_plain3 rfl (fun D a w hD hB hL hJ hd hs K hK => ?_) ?_
          · have e52 : a.tmps[52]?.getD undef = .pointer (some ⟨H3, 0, none⟩) := hs.get 0 52 (by kernel_rfl) (by kernel_rfl)
            have z0 := St.locCell hJ 0 _ rfl
            have HJ := Lib.hid hJ
            clear hJ hB hL hD hd hs
            go_simp
            exact hK.out _ _ rfl HJ.out (fun _ _ h => h)
          refine step_plain3 rfl (fun D a w hD hB hL hJ hd hs K hK => ?_) ?_
          · have e7 : a.tmps[7]?.getD undef = .pointer (some ⟨H3, 0, none⟩) := hs.at 7 (by kernel_rfl)
            clear hB hL hD hd hs
            have HJ := Lib.hid hJ
            clear hJ
            go_simp
            exact hK.out _ _ rfl HJ.out (fun _ _ h => h)
          refine step_plain3 rfl (fun D a w hD hB hL hJ hd hs K hK => ?_) ?_
          · have e54 : a.tmps[54]?.getD undef = .pointer (some ⟨H3, 1, none⟩) := hs.get 2 54 (by kernel_rfl) (by kernel_rfl)
            have z0 := St.locCell hJ 1 _ rfl
            have HJ := Lib.hid hJ
            clear hJ hB hL hD hd hs
            go_simp
            exact hK.out _ _ rfl HJ.out (fun _ _ h => h)
          refine step_plain3 rfl (fun D a w hD hB hL hJ hd hs K hK => ?_) ?_
          · have e5 : a.tmps[5]?.getD undef = .pointer (some ⟨H2, 0, none⟩) := hs.at 5 (by kernel_rfl)
            clear hB hL hD hd hs
            have HJ := Lib.hid hJ
            clear hJ
            go_simp
            exact hK.out _ _ rfl HJ.out (fun _ _ h => h)
          refine step_plain3 rfl (fun D a w hD hB hL hJ hd hs K hK => ?_) ?_
          · have e56 : a.tmps[56]?.getD undef = .pointer (some ⟨H2, 1, none⟩) := hs.get 4 56 (by kernel_rfl) (by kernel_rfl)
            have e53 : a.tmps[53]?.getD undef = .int .i64 0 := hs.get 1 53 (by kernel_rfl) (by kernel_rfl)
            have S' := St.swap hJ
            have z0 := St.locCell S' 1 _ rfl
            have z1 := St.locFrozen S' 1
            have S2 := (S'.locSet 1 (.int .i64 0)).swap
            have SH2 := Lib.hid S2
            clear S2 S' hJ hB hL hs hd hD
            go_simp
            exact hK.out (.bool false) _ trivial SH2.out (fun _ _ h => h)
          refine step_plain3 rfl (fun D a w hD hB hL hJ hd hs K hK => ?_) ?_
          · have e5 : a.tmps[5]?.getD undef = .pointer (some ⟨H2, 0, none⟩) := hs.at 5 (by kernel_rfl)
            clear hB hL hD hd hs
            have HJ := Lib.hid hJ
            clear hJ
            go_simp
            exact hK.out _ _ rfl HJ.out (fun _ _ h => h)
          refine step_plain3 rfl (fun D a w hD hB hL hJ hd hs K hK => ?_) ?_
          · have e57 : a.tmps[57]?.getD undef = .pointer (some ⟨H2, 2, none⟩) := hs.get 6 57 (by kernel_rfl) (by kernel_rfl)
            have e55 : a.tmps[55]?.getD undef = .int .i64 0 := hs.get 3 55 (by kernel_rfl) (by kernel_rfl)
            have S' := St.swap hJ
            have z0 := St.locCell S' 2 _ rfl
            have z1 := St.locFrozen S' 2
            have S2 := (S'.locSet 2 (.int .i64 0)).swap
            have SH2 := Lib.hid S2
            clear S2 S' hJ hB hL hs hd hD
            go_simp
            exact hK.out (.bool false) _ trivial SH2.out (fun _ _ h => h)
          exact step_nil3
        · intro vs D w' hD hJ hA
          have S := hJ
          rw [if_pos (hD 5 (by decide)), if_pos (hD 7 (by decide))] at S
          clear hJ hA hD
          simp only [putAll, Act.put, List.setIfInBounds_toArray, List.set_cons_zero, List.set_cons_succ]
          have r0 := St.locCell S.tail 0 _ rfl
          have r1 := St.locCell S.tail 1 _ rfl
          have r2 := St.locCell S.tail 2 _ rfl
          have CF := Lib.hid (i_cmd ⟨K, 0, 0⟩ w')
          go_wp2_with fail
          refine CF.out.mono ?_
          rintro e w4 ⟨rfl, g4⟩
          have S6 := S.grow g4
          cases hcb : cmdB ⟨K, 0, 0⟩ with
          | false =>
            have hno : readI s = none := by rw [FN.out, if_neg (by rw [hcb]; rintro ⟨h, -⟩; cases h)]
            have hno := Lib.hid hno
            have S7 := St.moveOut (Ms := [_, _, _]) S6
            have p0 := St.locCell S7 0 _ rfl
            have p1 := St.locCell S7 1 _ rfl
            have p2 := St.locCell S7 2 _ rfl
            have rf := fun j => St.locFrozen S7 j
            have S8 := ((S7.locSet 0 (.int .i64 0)).locSet 1 (.int .i64 0)).locSet 2 (.int .i64 0)
            have q0 := St.locCell S8 0 _ rfl
            have q1 := St.locCell S8 1 _ rfl
            have q2 := St.locCell S8 2 _ rfl
            have RG := Lib.hid S8.gb
            clear S7 S8 S S6 r0 r1 r2 CF
            go_wp2_with fail
            exact bodyPost_ret (v := .tuple #[.agg #[.int .i64 0, .int .i64 0, .int .i64 0], .bool false]) (by simp [results, Tryd.results34, go_sem, q0, q1, q2]) rfl (RET.out _ RG.out hno.out)
          | true =>
            have LN := Lib.hid (i_line ⟨K, 0, 0⟩ w4 (E.grow S6.gb).tab hcb)
            have t0 := St.locCell S6.tail 0 _ rfl
            have t1 := St.locCell S6.tail 1 _ rfl
            have t2 := St.locCell S6.tail 2 _ rfl
            go_wp2_with fail
            refine LN.out.mono ?_
            rintro e w5 ⟨rfl, g5⟩
            have S9 := S6.grow g5
            by_cases he : lineB ⟨K, 0, 0⟩ = s
            · have hyes : RowKit.Hid (readI s = some ⟨K, 0, 0⟩) := by show _ = _; rw [FN.out, if_pos ⟨hcb, he⟩]
              rw [he]
              have u0 := St.locCell S9.tail 0 _ rfl
              have u1 := St.locCell S9.tail 1 _ rfl
              have u2 := St.locCell S9.tail 2 _ rfl
              have S7 := St.moveOut (Ms := [_, _, _]) S9
              have v0 := St.locCell S7 0 _ rfl
              have v1 := St.locCell S7 1 _ rfl
              have v2 := St.locCell S7 2 _ rfl
              have vf := fun j => St.locFrozen S7 j
              have S8 := ((S7.locSet 0 (.int .i64 K)).locSet 1 (.int .i64 0)).locSet 2 (.int .i64 0)
              have q0 := St.locCell S8 0 _ rfl
              have q1 := St.locCell S8 1 _ rfl
              have q2 := St.locCell S8 2 _ rfl
              have RG := Lib.hid S8.gb
              clear S S6 S7 S8 S9 LN CF r0 r1 r2 t0 t1 t2 he hcb FN g4 g5
              go_wp2_with fail
              exact bodyPost_ret (v := .tuple #[.agg #[.int .i64 K, .int .i64 0, .int .i64 0], .bool true]) (by simp [results, Tryd.results34, go_sem, q0, q1, q2]) rfl (by rw [hyes.out]; exact ⟨rfl, RG.out⟩)
            · have hno : readI s = none := by rw [FN.out, if_neg (by rintro ⟨-, h⟩; exact he h)]
              have hno := Lib.hid hno
              have hne := str_ne he
              generalize lineB ⟨K, 0, 0⟩ = LB at hne
              have S7 := St.moveOut (Ms := [_, _, _]) S9
              have p0 := St.locCell S7 0 _ rfl
              have p1 := St.locCell S7 1 _ rfl
              have p2 := St.locCell S7 2 _ rfl
              have rf := fun j => St.locFrozen S7 j
              have S8 := ((S7.locSet 0 (.int .i64 0)).locSet 1 (.int .i64 0)).locSet 2 (.int .i64 0)
              have q0 := St.locCell S8 0 _ rfl
              have q1 := St.locCell S8 1 _ rfl
              have q2 := St.locCell S8 2 _ rfl
              have RG := Lib.hid S8.gb
              clear S7 S8 S S6 S9 r0 r1 r2 t0 t1 t2 CF LN he hcb FN
              go_wp2_with fail
              exact bodyPost_ret (v := .tuple #[.agg #[.int .i64 0, .int .i64 0, .int .i64 0], .bool false]) (by simp [results, Tryd.results34, go_sem, q0, q1, q2]) rfl (RET.out _ RG.out hno.out)
      go_wp2_with fail
      rw [← hH3]
      clear hH3
      obtain ⟨K, hK⟩ : ∃ K, K = kindTo 6 w0 := ⟨_, rfl⟩
      rw [← hK] at S4 FIN
      have S5 : St w (wr.alloc (.cells #[.int .i64 0, .int .i64 0] 67)) [Loc H3 67 #[.int .i64 0, .int .i64 0], Loc H2 47 #[.int .i64 K, .int .i64 0, .int .i64 0], Own LS (.slice (some ⟨gw, 0, none⟩) n cap) (w0 :: ws), Loc H0 47 #[.int .i64 0, .int .i64 0, .int .i64 0]] := S4
      clear S4 hK
      have HWL : RowKit.Hid (ws.length = n - 1) := by show _ = _; rw [HN.out]; simp
      go_loopw [8, 9, 10, 11, 31] (fun _ _ _ _ i wr => ∃ (j : Nat) (A B : Int), j ≤ n - 1 ∧ i = .int .i64 (j : Int) ∧ RowKit.Hid (numsP vI ws j = some (A, B)) ∧ St w wr [Loc H3 67 #[.int .i64 A, .int .i64 B], Loc H2 47 #[.int .i64 K, .int .i64 0, .int .i64 0], Own LS (.slice (some ⟨gw, 0, none⟩) n cap) (w0 :: ws), Loc H0 47 #[.int .i64 0, .int .i64 0, .int .i64 0]]) (fun _ _ _ _ i _ => n - (intOf i).toNat)
      case atStart => exact ⟨0, 0, 0, by omega, rfl, rfl, S5⟩
      case round =>
        obtain ⟨j, A, B, hj, rfl, HP, S⟩ := hrel
        clear S5
        by_cases hlt2 : j < n - 1
        · have hji : (j : Int) < ((n - 1 : Nat) : Int) := by omega
          obtain ⟨wd, hwd⟩ : ∃ wd, ws[j]? = some wd := ⟨_, List.getElem?_eq_getElem (by rw [HWL.out]; exact hlt2)⟩
          have cw0 := St.ownCell S.tail.tail (g := gw) rfl (j + 1) wd (by simpa using hwd) 0 _ rfl
          have cw : wr.cell? ⟨gw, 1 + j, none⟩ = some (.string wd) := by
            have e : (j + 1) * LS.s + 0 = 1 + j := by show (j + 1) * 1 + 0 = _; omega
            rw [e] at cw0
            exact cw0
          have hws : wd.size ≤ 281474976710656 := Nat.le_trans (WSZ.out j wd hwd) (by decide)
          have AT := Lib.hid (atoi_s wd wr (E.grow S.gb) hws)
          have HS := Lib.hid (numsP_step HP.out hwd)
          have hcj : j + 1 ≤ cap := by omega
          go_wp2_with fail
          refine AT.out.mono ?_
          rintro e w3 ⟨nv, ev, rfl, h1, h2, g3⟩
          have S6 := S.grow g3
          cases hv : vI wd.data.toList with
          | none =>
            obtain ⟨p, rfl⟩ := h2 hv
            have hno := Lib.hid (NUM.out (j + 1) (by rw [HWL.out]; omega) (by rw [HS.out, hv]))
            have S7 := St.moveOut (Ms := [_, _, _]) S6
            have r0 := St.locCell S7 0 _ rfl
            have r1 := St.locCell S7 1 _ rfl
            have r2 := St.locCell S7 2 _ rfl
            have rf := fun j => St.locFrozen S7 j
            have S8 := ((S7.locSet 0 (.int .i64 0)).locSet 1 (.int .i64 0)).locSet 2 (.int .i64 0)
            have q0 := St.locCell S8 0 _ rfl
            have q1 := St.locCell S8 1 _ rfl
            have q2 := St.locCell S8 2 _ rfl
            have RG := Lib.hid S8.gb
            clear S7 S8 S S6 AT HS h1 h2 cw cw0
            go_wp2_with fail
            exact bodyPost_ret (v := .tuple #[.agg #[.int .i64 0, .int .i64 0, .int .i64 0], .bool false]) (by simp [results, Tryd.results34, go_sem, q0, q1, q2]) rfl (RET.out _ RG.out hno.out)
          | some v =>
            obtain ⟨rfl, rfl⟩ := h1 v hv
            by_cases hj1 : 1 < j
            · have hj1i : (1 : Int) < (j : Int) := by omega
              have hno := Lib.hid (NUM.out (j + 1) (by rw [HWL.out]; omega) (by rw [HS.out, hv]; simp only [if_neg (show ¬ j = 0 by omega), if_neg (show ¬ j = 1 by omega)]))
              have S7 := St.moveOut (Ms := [_, _, _]) S6
              have r0 := St.locCell S7 0 _ rfl
              have r1 := St.locCell S7 1 _ rfl
              have r2 := St.locCell S7 2 _ rfl
              have rf := fun j => St.locFrozen S7 j
              have S8 := ((S7.locSet 0 (.int .i64 0)).locSet 1 (.int .i64 0)).locSet 2 (.int .i64 0)
              have q0 := St.locCell S8 0 _ rfl
              have q1 := St.locCell S8 1 _ rfl
              have q2 := St.locCell S8 2 _ rfl
              have RG := Lib.hid S8.gb
              clear S7 S8 S S6 AT HS h1 h2 cw cw0
              go_wp2_with fail
              exact bodyPost_ret (v := .tuple #[.agg #[.int .i64 0, .int .i64 0, .int .i64 0], .bool false]) (by simp [results, Tryd.results34, go_sem, q0, q1, q2]) rfl (RET.out _ RG.out hno.out)
            · have e0 := St.locCell S6 0 _ rfl
              have e1 := St.locCell S6 1 _ rfl
              have ef := fun j => St.locFrozen S6 j
              rcases (show j = 0 ∨ j = 1 by omega) with rfl | rfl
              · have HP2 : RowKit.Hid (numsP vI ws (0 + 1) = some (nv, B)) := by show _ = _; rw [HS.out, hv]; rfl
                have S7 := Lib.hid (S6.locSet 0 (.int .i64 nv))
                clear S S6 AT HS HP h1 h2 cw cw0
                go_wp2_with fail
                go_roundw
                case rel => exact ⟨0 + 1, nv, B, by omega, by go_num, HP2, S7.out⟩
                case measure => simp [intOf]; omega
              · have HP2 : RowKit.Hid (numsP vI ws (1 + 1) = some (A, nv)) := by show _ = _; rw [HS.out, hv]; rfl
                have S7 := Lib.hid (S6.locSet 1 (.int .i64 nv))
                clear S S6 AT HS HP h1 h2 cw cw0
                go_wp2_with fail
                go_roundw
                case rel => exact ⟨1 + 1, A, nv, by omega, by go_num, HP2, S7.out⟩
                case measure => simp [intOf]; omega
        · obtain rfl : j = n - 1 := by omega
          have FN := Lib.hid (FIN.out A B (by rw [HWL.out]; exact HP.out))
          clear FIN HP NUM
          go_wp2_with fail
          refine wp_drawn_put3 (shp [some (.pointer (some ⟨H3, 0, none⟩)), some (.int .i64 A), some (.pointer (some ⟨H3, 1, none⟩)), some (.int .i64 B), some (.pointer (some ⟨H2, 1, none⟩)), none, some (.pointer (some ⟨H2, 2, none⟩)), none]) (fun D S w' => St w w' [Loc H3 67 #[.int .i64 A, .int .i64 B], Loc H2 47 #[.int .i64 K, .int .i64 (if D 5 then A else 0), .int .i64 (if D 7 then B else 0)], Own LS (.slice (some ⟨gw, 0, none⟩) n cap) (w0 :: ws), Loc H0 47 #[.int .i64 0, .int .i64 0, .int .i64 0]]) (by kernel_rfl) (by kernel_rfl) (S.drew) ?_ ?_
          · refine step_plain3 rfl (fun D a w hD hB hL hJ hd hs K hK => ?_) ?_
            · have e7 : a.tmps[7]?.getD undef = .pointer (some ⟨H3, 0, none⟩) := hs.at 7 (by kernel_rfl)
              clear hB hL hD hd hs
              have HJ := Lib.hid hJ
              clear hJ
              go_simp
              exact hK.out _ _ rfl HJ.out (fun _ _ h => h)
            refine step_plain3 rfl (fun D a w hD hB hL hJ hd hs K hK => ?_) ?_
            · have e52 : a.tmps[52]?.getD undef = .pointer (some ⟨H3, 0, none⟩) := hs.get 0 52 (by kernel_rfl) (by kernel_rfl)
              have z0 := St.locCell hJ 0 _ rfl
              have HJ := Lib.hid hJ
              clear hJ hB hL hD hd hs
              go_simp
              exact hK.out _ _ rfl HJ.out (fun _ _ h => h)
            refine step_plain3 rfl (fun D a w hD hB hL hJ hd hs K hK => ?_) ?_
            · have e7 : a.tmps[7]?.getD undef = .pointer (some ⟨H3, 0, none⟩) := hs.at 7 (by kernel_rfl)
              clear hB hL hD hd hs
              have HJ := Lib.hid hJ
              clear hJ
              go_simp
              exact hK.out _ _ rfl HJ.out (fun _ _ h => h)
            refine step_plain3 rfl (fun D a w hD hB hL hJ hd hs K hK => ?_) ?_
            · have e54 : a.tmps[54]?.getD undef = .pointer (some ⟨H3, 1, none⟩) := hs.get 2 54 (by kernel_rfl) (by kernel_rfl)
              have z0 := St.locCell hJ 1 _ rfl
              have HJ := Lib.hid hJ
              clear hJ hB hL hD hd hs
              go_simp
              exact hK.out _ _ rfl HJ.out (fun _ _ h => h)
            refine step_plain3 rfl (fun D a w hD hB hL hJ hd hs K hK => ?_) ?_
            · have e5 : a.tmps[5]?.getD undef = .pointer (some ⟨H2, 0, none⟩) := hs.at 5 (by kernel_rfl)
              clear hB hL hD hd hs
              have HJ := Lib.hid hJ
              clear hJ
              go_simp
              exact hK.out _ _ rfl HJ.out (fun _ _ h => h)
            refine step_plain3 rfl (fun D a w hD hB hL hJ hd hs K hK => ?_) ?_
            · have e56 : a.tmps[56]?.getD undef = .pointer (some ⟨H2, 1, none⟩) := hs.get 4 56 (by kernel_rfl) (by kernel_rfl)
              have e53 : a.tmps[53]?.getD undef = .int .i64 A := hs.get 1 53 (by kernel_rfl) (by kernel_rfl)
              have S' := St.swap hJ
              have z0 := St.locCell S' 1 _ rfl
              have z1 := St.locFrozen S' 1
              have S2 := (S'.locSet 1 (.int .i64 A)).swap
              have SH2 := Lib.hid S2
              clear S2 S' hJ hB hL hs hd hD
              go_simp
              exact hK.out (.bool false) _ trivial SH2.out (fun _ _ h => h)
            refine step_plain3 rfl (fun D a w hD hB hL hJ hd hs K hK => ?_) ?_
            · have e5 : a.tmps[5]?.getD undef = .pointer (some ⟨H2, 0, none⟩) := hs.at 5 (by kernel_rfl)
              clear hB hL hD hd hs
              have HJ := Lib.hid hJ
              clear hJ
              go_simp
              exact hK.out _ _ rfl HJ.out (fun _ _ h => h)
            refine step_plain3 rfl (fun D a w hD hB hL hJ hd hs K hK => ?_) ?_
            · have e57 : a.tmps[57]?.getD undef = .pointer (some ⟨H2, 2, none⟩) := hs.get 6 57 (by kernel_rfl) (by kernel_rfl)
              have e55 : a.tmps[55]?.getD undef = .int .i64 B := hs.get 3 55 (by kernel_rfl) (by kernel_rfl)
              have S' := St.swap hJ
              have z0 := St.locCell S' 2 _ rfl
              have z1 := St.locFrozen S' 2
              have S2 := (S'.locSet 2 (.int .i64 B)).swap
              have SH2 := Lib.hid S2
              clear S2 S' hJ hB hL hs hd hD
              go_simp
              exact hK.out (.bool false) _ trivial SH2.out (fun _ _ h => h)
            exact step_nil3
          · intro vs D w' hD hJ hA
            have S := hJ
            rw [if_pos (hD 5 (by decide)), if_pos (hD 7 (by decide))] at S
            clear hJ hA hD
            simp only [putAll, Act.put, List.setIfInBounds_toArray, List.set_cons_zero, List.set_cons_succ]
            have r0 := St.locCell S.tail 0 _ rfl
            have r1 := St.locCell S.tail 1 _ rfl
            have r2 := St.locCell S.tail 2 _ rfl
            have CF := Lib.hid (i_cmd ⟨K, A, B⟩ w')
            go_wp2_with fail
            refine CF.out.mono ?_
            rintro e w4 ⟨rfl, g4⟩
            have S6 := S.grow g4
            cases hcb : cmdB ⟨K, A, B⟩ with
            | false =>
              have hno : readI s = none := by rw [FN.out, if_neg (by rw [hcb]; rintro ⟨h, -⟩; cases h)]
              have hno := Lib.hid hno
              have S7 := St.moveOut (Ms := [_, _, _]) S6
              have p0 := St.locCell S7 0 _ rfl
              have p1 := St.locCell S7 1 _ rfl
              have p2 := St.locCell S7 2 _ rfl
              have rf := fun j => St.locFrozen S7 j
              have S8 := ((S7.locSet 0 (.int .i64 0)).locSet 1 (.int .i64 0)).locSet 2 (.int .i64 0)
              have q0 := St.locCell S8 0 _ rfl
              have q1 := St.locCell S8 1 _ rfl
              have q2 := St.locCell S8 2 _ rfl
              have RG := Lib.hid S8.gb
              clear S7 S8 S S6 r0 r1 r2 CF
              go_wp2_with fail
              exact bodyPost_ret (v := .tuple #[.agg #[.int .i64 0, .int .i64 0, .int .i64 0], .bool false]) (by simp [results, Tryd.results34, go_sem, q0, q1, q2]) rfl (RET.out _ RG.out hno.out)
            | true =>
              have LN := Lib.hid (i_line ⟨K, A, B⟩ w4 (E.grow S6.gb).tab hcb)
              have t0 := St.locCell S6.tail 0 _ rfl
              have t1 := St.locCell S6.tail 1 _ rfl
              have t2 := St.locCell S6.tail 2 _ rfl
              go_wp2_with fail
              refine LN.out.mono ?_
              rintro e w5 ⟨rfl, g5⟩
              have S9 := S6.grow g5
              by_cases he : lineB ⟨K, A, B⟩ = s
              · have hyes : RowKit.Hid (readI s = some ⟨K, A, B⟩) := by show _ = _; rw [FN.out, if_pos ⟨hcb, he⟩]
                rw [he]
                have u0 := St.locCell S9.tail 0 _ rfl
                have u1 := St.locCell S9.tail 1 _ rfl
                have u2 := St.locCell S9.tail 2 _ rfl
                have S7 := St.moveOut (Ms := [_, _, _]) S9
                have v0 := St.locCell S7 0 _ rfl
                have v1 := St.locCell S7 1 _ rfl
                have v2 := St.locCell S7 2 _ rfl
                have vf := fun j => St.locFrozen S7 j
                have S8 := ((S7.locSet 0 (.int .i64 K)).locSet 1 (.int .i64 A)).locSet 2 (.int .i64 B)
                have q0 := St.locCell S8 0 _ rfl
                have q1 := St.locCell S8 1 _ rfl
                have q2 := St.locCell S8 2 _ rfl
                have RG := Lib.hid S8.gb
                clear S S6 S7 S8 S9 LN CF r0 r1 r2 t0 t1 t2 he hcb FN g4 g5
                go_wp2_with fail
                exact bodyPost_ret (v := .tuple #[.agg #[.int .i64 K, .int .i64 A, .int .i64 B], .bool true]) (by simp [results, Tryd.results34, go_sem, q0, q1, q2]) rfl (by rw [hyes.out]; exact ⟨rfl, RG.out⟩)
              · have hno : readI s = none := by rw [FN.out, if_neg (by rintro ⟨-, h⟩; exact he h)]
                have hno := Lib.hid hno
                have hne := str_ne he
                generalize lineB ⟨K, A, B⟩ = LB at hne
                have S7 := St.moveOut (Ms := [_, _, _]) S9
                have p0 := St.locCell S7 0 _ rfl
                have p1 := St.locCell S7 1 _ rfl
                have p2 := St.locCell S7 2 _ rfl
                have rf := fun j => St.locFrozen S7 j
                have S8 := ((S7.locSet 0 (.int .i64 0)).locSet 1 (.int .i64 0)).locSet 2 (.int .i64 0)
                have q0 := St.locCell S8 0 _ rfl
                have q1 := St.locCell S8 1 _ rfl
                have q2 := St.locCell S8 2 _ rfl
                have RG := Lib.hid S8.gb
                clear S7 S8 S S6 S9 r0 r1 r2 t0 t1 t2 CF LN he hcb FN
                go_wp2_with fail
                exact bodyPost_ret (v := .tuple #[.agg #[.int .i64 0, .int .i64 0, .int .i64 0], .bool false]) (by simp [results, Tryd.results34, go_sem, q0, q1, q2]) rfl (RET.out _ RG.out hno.out)
end Go.Proofs.YtbhelobahfgaeaaDoor
