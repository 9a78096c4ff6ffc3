/-
  spec.l20Match, spec.l20Expand and spec.ExpandProgram.
-/
import Derived.Test.YtbhelobahfgaeaaExpand
namespace Go.Proofs.Ytbhelobahfgaeaa
open Go Go.RowKit
set_option maxHeartbeats 2000000 in
theorem match_s (v : Value) (xs : List Cmd) (p : Nat) (w : World) (hv : Rds LCmd w v xs) (hp : p ≤ xs.length) (hx : xs.length ≤ 30) :
    Calls Try.prog 37 #[v, .int .i64 (p : Int)] w fun e w' => ∃ R : Int, e = .returned (.int .i64 R) ∧ R = (matchGo (xs.drop p) 0 p : Int) ∧ w = w' := by
  obtain ⟨a, n, cap, rfl, h1, hm, HN, HC⟩ := LCmd_get hv
  obtain ⟨R, hR⟩ : ∃ R, RowKit.Hid (R = matchGo (xs.drop p) 0 p) := ⟨_, rfl⟩
  rw [← hR.out]
  have hn : n ≤ 30 := by rw [HN.out]; exact hx
  have hpn : p ≤ n := by rw [HN.out]; exact hp
  clear hv hp hx
  go_enter Try.func37, Try.ntmps37
  go_wp2_with fail
  go_loop [5, 6] (fun dv i => ∃ (k : Nat) (d : Int), k ≤ n ∧ i = .int .i64 k ∧ dv = .int .i64 d ∧ -(k : Int) ≤ d ∧ d ≤ (k : Int) ∧ RowKit.Hid (matchGo (xs.drop k) d k = R)) (fun _ i => n - (intOf i).toNat)
  case atStart => exact ⟨p, 0, hpn, rfl, rfl, by omega, by omega, (show _ = _ by rw [hR.out])⟩
  case round =>
    obtain ⟨k, d, hk, rfl, rfl, hd0, hd1, HG⟩ := hrel
    by_cases hlt : k < n
    rotate_left
    · have he : RowKit.Hid (R = n) := by
        show _ = _
        rw [← HG.out, List.drop_of_length_le (by rw [← HN.out]; omega)]
        show k = n
        omega
      clear HG
      go_wp2_with fail
      go_ret
      exact ⟨_, rfl, by rw [he.out], rfl⟩
    obtain ⟨b, off, c, rfl, hb, hx, c0, c1, c2⟩ := HC.out k hlt
    have hlt' : (k : Int) < (n : Int) := by omega
    have hk0 : (0 : Int) ≤ (k : Int) := by omega
    obtain ⟨hkl, hce⟩ := List.getElem?_eq_some_iff.1 hx.out
    have hs := HG.out
    rw [List.drop_eq_getElem_cons hkl, hce, matchGo] at hs
    obtain ⟨K, A, B⟩ := c
    dsimp only at c0 c1 c2 hs
    have HS := Lib.hid hs
    clear HG hx c1 c2 hkl hce hs
    by_cases k5 : K = 5
    · subst k5
      have HG : RowKit.Hid (matchGo (xs.drop (k + 1)) (d + 1) (k + 1) = R) := by
        have := HS.out
        rw [if_pos rfl] at this
        exact this
      clear HS
      go_wp2_with fail
      go_round
      case rel => exact ⟨k + 1, d + 1, by omega, by go_num, by go_num, by omega, by omega, HG⟩
      case measure => simp [intOf]; omega
    have e5 : (K == 5) = false := beq_eq_false_iff_ne.2 k5
    by_cases k6 : K = 6
    · subst k6
      by_cases hz : d - 1 = 0
      · have he : RowKit.Hid (R = k) := by
          have := HS.out
          rw [if_neg (by omega), if_pos rfl, if_pos hz] at this
          exact this.symm
        have hz' : d = 1 := by omega
        subst hz'
        clear HS
        go_wp2_with fail
        go_ret
        exact ⟨_, rfl, by rw [he.out], rfl⟩
      · have HG : RowKit.Hid (matchGo (xs.drop (k + 1)) (d - 1) (k + 1) = R) := by
          have := HS.out
          rw [if_neg (by omega), if_pos rfl, if_neg hz] at this
          exact this
        have ez : (d - 1 == 0) = false := beq_eq_false_iff_ne.2 hz
        clear HS
        go_wp2_with fail
        go_round
        case rel => exact ⟨k + 1, d - 1, by omega, by go_num, by go_num, by omega, by omega, HG⟩
        case measure => simp [intOf]; omega
    have e6 : (K == 6) = false := beq_eq_false_iff_ne.2 k6
    have HG : RowKit.Hid (matchGo (xs.drop (k + 1)) d (k + 1) = R) := by
      have := HS.out
      rw [if_neg k5, if_neg k6] at this
      exact this
    clear HS
    go_wp2_with fail
    go_round
    case rel => exact ⟨k + 1, d, by omega, by go_num, by go_num, by omega, by omega, HG⟩
    case measure => simp [intOf]; omega
def SexQ (w0 : World) (out E : List Cmd) (Ls : List Asr) (e : Ending) (w' : World) : Prop :=
  ∃ (r : Value) (R : List Cmd), e = .returned r ∧ (out.length + E.length ≤ 500 → R = out ++ E) ∧ (500 < out.length + E.length → 500 < R.length) ∧ R.length ≤ 501 ∧ St w0 w' (Own LCmd r R :: Ls)
set_option maxHeartbeats 8000000 in
theorem l20Expand_s (w0 : World) (Ls : List Asr) : ∀ (N : Nat) (F : Fo) (xs : List Cmd) (p : Nat) (P Q : Int) (post : List Cmd) (v u : Value) (out : List Cmd) (w : World), F.size = N → F.wf → xs.drop p = F.flat ++ post → p ≤ xs.length → xs.length ≤ 30 → P = (p : Int) → Q = ((p + F.flat.length : Nat) : Int) → Rds LCmd w0 v xs → out.length ≤ 501 → St w0 w (Own LCmd u out :: Ls) → Calls Try.prog 28 #[v, .int .i64 P, .int .i64 Q, u] w (SexQ w0 out F.exp Ls) := by
  intro N
  induction N using Nat.strongRecOn with
  | _ N ih =>
  intro F xs p P Q post v u out w hN hwf hdr hp hx hP hQ hv hol S
  have IH := Lib.hid ih
  have HV := Lib.hid hv
  obtain ⟨a, n, cap, rfl, h1, hm, HN, HC⟩ := LCmd_get hv
  have HX := Lib.hid hx
  obtain ⟨q, hq⟩ : ∃ q, RowKit.Hid (q = p + F.flat.length) := ⟨_, rfl⟩
  rw [← hq.out] at hQ
  subst hP
  subst hQ
  have hn : n ≤ 30 := by rw [HN.out]; exact hx
  have hpn : p ≤ n := by rw [HN.out]; exact hp
  have hqn : q ≤ n := by rw [HN.out, hq.out]; exact flat_bound hdr hp
  obtain ⟨E, hE⟩ : ∃ E, RowKit.Hid (E = F.exp) := ⟨_, rfl⟩
  rw [← hE.out]
  have HDR : RowKit.Hid (xs.drop p = F.flat ++ post) := hdr
  have HWF := Lib.hid hwf
  have HSZ : RowKit.Hid (F.size ≤ N) := by show _ ≤ _; omega
  clear ih hv hx hdr hwf hN hp
  obtain ⟨ua, un, uc, rfl, -⟩ := LCmd_own S
  go_enter Try.func28, Try.ntmps28
  go_wp2_with fail
  go_loopw [3, 9] (fun ov at_ wr => ∃ (G : Fo) (k : Nat) (acc : List Cmd), at_ = .int .i64 k ∧ k ≤ q ∧ RowKit.Hid (xs.drop k = G.flat ++ post) ∧ RowKit.Hid (acc.length ≤ 500 → out ++ E = acc ++ G.exp) ∧ RowKit.Hid (500 < acc.length → 500 < out.length + E.length) ∧ RowKit.Hid G.wf ∧ RowKit.Hid (G.size ≤ N) ∧ RowKit.Hid (k + G.flat.length = q) ∧ acc.length ≤ 501 ∧ St w0 wr (Own LCmd ov acc :: Ls)) (fun _ at_ _ => q - (intOf at_).toNat)
  case atStart => exact ⟨F, p, out, rfl, (by rw [hq.out]; omega), HDR, (show _ → _ by intro _; rw [hE.out]), (show _ → _ by intro _; omega), HWF, HSZ, (show _ = _ by rw [hq.out]), hol, S⟩
  case round =>
    clear HDR HWF HSZ hE hq S hpn hol
    obtain ⟨G, k, acc, rfl, hkq, HD, HEX, HBG, HW, HS, HQ, hal, S⟩ := hrel
    obtain ⟨oa, on, oc, rfl, hoc, hom, HON, -⟩ := LCmd_own S
    by_cases h5 : on ≤ 500
    rotate_left
    · have h5' : ¬ (on : Int) ≤ 500 := by omega
      have FIN : RowKit.Hid (SexQ w0 out E Ls (.returned (.slice oa on oc)) wr) := by
        have h6 : 500 < acc.length := by rw [← HON.out]; omega
        have h7 := HBG.out h6
        exact ⟨_, acc, rfl, fun h => by omega, fun _ => h6, hal, S⟩
      clear HEX HBG HW HS HQ HD S IH
      by_cases hlt : k < q
      · go_wp2_with fail
        go_ret
        exact FIN.out
      · go_wp2_with fail
        go_ret
        exact FIN.out
    have h5' : (on : Int) ≤ 500 := by omega
    have hacc : acc.length ≤ 500 := by rw [← HON.out]; exact h5
    have HEX1 := Lib.hid (HEX.out hacc)
    clear HEX HBG
    cases G with
    | nil =>
      have hQ2 : k = q := by have := HQ.out; simpa [Fo.flat] using this
      have FIN : RowKit.Hid (SexQ w0 out E Ls (.returned (.slice oa on oc)) wr) := by
        have h7 := HEX1.out
        rw [Fo.exp, List.append_nil] at h7
        have h8 := congrArg List.length h7
        rw [List.length_append] at h8
        exact ⟨_, acc, rfl, fun h => h7.symm, fun h => by omega, hal, S⟩
      have hlt : ¬ k < q := by omega
      clear HEX1 HW HS HQ HD S IH hQ2
      go_wp2_with fail
      go_ret
      exact FIN.out
    | one c r =>
      obtain ⟨hxk, hdr2, hkl⟩ := drop_get (c := c) (l := r.flat ++ post) (by have := HD.out; simpa [Fo.flat] using this)
      have hlt : k < n := by rw [HN.out]; exact hkl
      obtain ⟨b, off, c', rfl, hb, hxk', c0, c1, c2⟩ := HC.out k hlt
      obtain rfl : c' = c := by have := hxk'.out; rw [hxk] at this; exact (Option.some.inj this).symm
      obtain ⟨q1, q2, q3, q4⟩ := HW.out
      obtain ⟨K, A, B⟩ := c'
      dsimp only at c0 c1 c2 q2 q3
      have c0' := gb_cell S.gb c0 (by simp)
      have c1' := gb_cell S.gb c1 (by simp)
      have c2' := gb_cell S.gb c2 (by simp)
      have e5 : (K == 5) = false := beq_eq_false_iff_ne.2 q2
      have hlt' : (k : Int) < (n : Int) := by omega
      have hk0 : (0 : Int) ≤ (k : Int) := by omega
      have HD2 : RowKit.Hid (xs.drop (k + 1) = r.flat ++ post) := hdr2
      have HEX3 : out ++ E = (acc ++ [⟨K, A, B⟩]) ++ r.exp := by rw [HEX1.out, Fo.exp, List.append_assoc]; rfl
      have HEX2 : RowKit.Hid ((acc ++ [(⟨K, A, B⟩ : Cmd)]).length ≤ 500 → out ++ E = (acc ++ [⟨K, A, B⟩]) ++ r.exp) := fun _ => HEX3
      have HBG2 : RowKit.Hid (500 < (acc ++ [(⟨K, A, B⟩ : Cmd)]).length → 500 < out.length + E.length) := by
        intro h
        have h8 := congrArg List.length HEX3
        rw [List.length_append, List.length_append (bs := r.exp)] at h8
        omega
      have HW2 : RowKit.Hid r.wf := q4
      have HS2 : RowKit.Hid (r.size ≤ N) := by have := HS.out; simp only [Fo.size] at this; show _ ≤ _; omega
      have HQ2 : RowKit.Hid (k + 1 + r.flat.length = q) := by have := HQ.out; simp only [Fo.flat, List.length_cons] at this; show _ = _; omega
      have hkq2 : k + 1 ≤ q := by have := HQ2.out; omega
      have hkq3 : (k : Int) < (q : Int) := by omega
      have hnl : acc.length ≤ 1000000000 := by omega
      clear HD HEX1 HEX3 HW HS HQ q1 q2 q3 q4 hdr2 hkl hxk hxk' c0 c1 c2 IH
      go_wp2_with (at_builtin; refine wpList_app1 LCmd_info rfl _ _ rfl S (⟨K, A, B⟩ : Cmd) #[.int .i64 K, .int .i64 A, .int .i64 B] rfl rfl (by simp [Act.eval]) hnl ?_; intro v' w5 S5; clear S)
      go_roundw
      case rel => exact ⟨r, k + 1, acc ++ [⟨K, A, B⟩], by go_num, by omega, HD2, HEX2, HBG2, HW2, HS2, HQ2, by simp; omega, S5⟩
      case measure => simp [intOf]; omega
    | rep c e bd r =>
      have hdc : xs.drop k = c :: (bd.flat ++ (e :: (r.flat ++ post))) := by have := HD.out; simpa [Fo.flat] using this
      obtain ⟨hxk, hdr2, hkl⟩ := drop_get hdc
      have hlt : k < n := by rw [HN.out]; exact hkl
      obtain ⟨b, off, c', rfl, hb, hxk', c0, c1, c2⟩ := HC.out k hlt
      obtain rfl : c' = c := by have := hxk'.out; rw [hxk] at this; exact (Option.some.inj this).symm
      obtain ⟨q1, q2, q3, q4, q5, q6⟩ := HW.out
      obtain ⟨hA1, hA2⟩ := cmdB_rep q1 q3
      have MT := match_s _ xs k wr (HV.out.kept S.gb) (by omega) HX.out
      rw [hdc, matchGo_rep k q3 q4 q5] at MT
      obtain ⟨K, A, B⟩ := c'
      dsimp only at c0 c1 c2 q3 hA1 hA2
      subst q3
      obtain ⟨AN, rfl⟩ := Int.eq_ofNat_of_zero_le (show 0 ≤ A by omega)
      have c0' := gb_cell S.gb c0 (by simp)
      have hlt' : (k : Int) < (n : Int) := by omega
      have hk0 : (0 : Int) ≤ (k : Int) := by omega
      have hss := HS.out
      simp only [Fo.size] at hss
      have REC : RowKit.Hid (∀ (T : Int) (u : Value) (ac : List Cmd) (w1 : World), T = ((k + 1 + bd.flat.length : Nat) : Int) → ac.length ≤ 501 → St w0 w1 (Own LCmd u ac :: Ls) → Calls Try.prog 28 #[.slice (some ⟨b, off, none⟩) n cap, .int .i64 ((k : Int) + 1), .int .i64 T, u] w1 (SexQ w0 ac bd.exp Ls)) := fun T u ac w1 hT hl S1 =>
        IH.out bd.size (by omega) bd xs (k + 1) ((k : Int) + 1) T (e :: (r.flat ++ post)) _ u ac w1 rfl q5 hdr2 (by omega) HX.out (by omega) hT HV.out hl S1
      have hdr3 : xs.drop (k + 1 + bd.flat.length) = e :: (r.flat ++ post) := drop_add hdr2
      obtain ⟨-, hdr4, hkl4⟩ := drop_get hdr3
      have HD2 : RowKit.Hid (xs.drop (k + 1 + bd.flat.length + 1) = r.flat ++ post) := hdr4
      have HEX2 : RowKit.Hid (out ++ E = (acc ++ (List.replicate AN bd.exp).flatten) ++ r.exp) := by show _ = _; rw [HEX1.out, Fo.exp, List.append_assoc]; rfl
      have HW2 : RowKit.Hid r.wf := q6
      have HS2 : RowKit.Hid (r.size ≤ N) := by show _ ≤ _; omega
      have HQ2 : RowKit.Hid (k + 1 + bd.flat.length + 1 + r.flat.length = q) := by have := HQ.out; simp only [Fo.flat, List.length_cons, List.length_append] at this; show _ = _; omega
      have hbn : k + 1 + bd.flat.length + 1 ≤ q := by have := HQ2.out; omega
      have hkq3 : (k : Int) < (q : Int) := by omega
      obtain ⟨fl, hfl⟩ : ∃ fl, fl = bd.flat.length := ⟨_, rfl⟩
      rw [← hfl] at HD2 HQ2 hbn REC MT
      clear HD HEX1 HW HS HQ q1 q4 q5 q6 hdr2 hkl hxk hxk' c2 IH hss hdr3 hdr4 hkl4 hfl hdc
      generalize bd.exp = be at REC HEX2
      have SH := Lib.hid S
      have HCB : RowKit.Hid (∀ wz, w0.grownBy wz none → wz.cell? ⟨b, off + k * 3 + 1, none⟩ = some (.int .i64 (AN : Int))) := fun wz g => gb_cell g c1 (by simp)
      clear S
      go_wp2_with fail
      refine MT.mono ?_
      rintro e1 w3 ⟨T, rfl, hT, rfl⟩
      clear MT
      go_wp2_with fail
      have P0 : RowKit.Hid (acc.length ≤ 500 → acc = acc ++ (List.replicate 0 be).flatten) := fun _ => by simp
      have OUTF : RowKit.Hid (∀ ac : List Cmd, (ac.length ≤ 500 → ac = acc ++ (List.replicate AN be).flatten) → (500 < ac.length → 500 < acc.length + AN * be.length) → (ac.length ≤ 500 → out ++ E = ac ++ r.exp) ∧ (500 < ac.length → 500 < out.length + E.length)) := by
        intro ac p1 p2
        refine ⟨fun h => by rw [HEX2.out, p1 h], fun h => ?_⟩
        have h8 := congrArg List.length HEX2.out
        rw [List.length_append, List.length_append, List.length_append, rep_len] at h8
        have := p2 h
        omega
      go_loopw [3, 11] (fun ov i wr => ∃ (j : Nat) (ac : List Cmd), j ≤ AN ∧ i = .int .i64 j ∧ RowKit.Hid (ac.length ≤ 500 → ac = acc ++ (List.replicate j be).flatten) ∧ RowKit.Hid (500 < ac.length → 500 < acc.length + AN * be.length) ∧ ac.length ≤ 501 ∧ St w0 wr (Own LCmd ov ac :: Ls)) (fun _ i _ => AN - (intOf i).toNat)
      case atStart => exact ⟨0, acc, by omega, rfl, P0, (show _ → _ by intro _; omega), hal, SH.out⟩
      case round =>
        obtain ⟨j, ac, hjn, rfl, HP1, HP2, hacl, S⟩ := hrel
        obtain ⟨va, an, vc, rfl, hvc1, hvc2, HAN, -⟩ := LCmd_own S
        have cb := HCB.out wr S.gb
        clear P0
        by_cases hltj : j < AN
        rotate_left
        · obtain rfl : j = AN := by omega
          obtain ⟨f1, f2⟩ := OUTF.out ac HP1.out HP2.out
          have F1 := Lib.hid f1
          have F2 := Lib.hid f2
          clear f1 f2 HP1 HP2
          go_wp2_with fail
          go_roundw
          case rel => exact ⟨r, k + 1 + fl + 1, ac, by go_num, by omega, HD2, F1, F2, HW2, HS2, HQ2, hacl, S⟩
          case measure => simp [intOf]; omega
        have hji : (j : Int) < (AN : Int) := by omega
        by_cases h7 : an ≤ 500
        rotate_left
        · have h7' : ¬ (an : Int) ≤ 500 := by omega
          have h8 : 500 < ac.length := by rw [← HAN.out]; omega
          obtain ⟨f1, f2⟩ := OUTF.out ac (fun h => by omega) HP2.out
          have F1 := Lib.hid f1
          have F2 := Lib.hid f2
          clear f1 f2 HP1 HP2
          go_wp2_with fail
          go_roundw
          case rel => exact ⟨r, k + 1 + fl + 1, ac, by go_num, by omega, HD2, F1, F2, HW2, HS2, HQ2, hacl, S⟩
          case measure => simp [intOf]; omega
        have h7' : (an : Int) ≤ 500 := by omega
        have h8 : ac.length ≤ 500 := by rw [← HAN.out]; exact h7
        have HACE := Lib.hid (HP1.out h8)
        have CALL := REC.out (((k + 1 + fl : Nat) : Int)) _ ac wr rfl hacl S
        clear HP1 HP2 S
        go_wp2_with fail
        refine CALL.mono ?_
        rintro e2 w5 ⟨rv, R, rfl, r1, r2, r3, S5⟩
        clear CALL
        obtain ⟨ra, rn, rc, rfl, -, -, HRN, -⟩ := LCmd_own S5
        have MUL : (j + 1) * be.length ≤ AN * be.length := Nat.mul_le_mul_right _ (by omega)
        have hACL : ac.length = acc.length + j * be.length := by rw [HACE.out, List.length_append, rep_len]
        have HP3 : RowKit.Hid (R.length ≤ 500 → R = acc ++ (List.replicate (j + 1) be).flatten) := by
          intro h
          by_cases h9 : ac.length + be.length ≤ 500
          · rw [r1 h9, rep_succ, ← List.append_assoc, ← HACE.out]
          · have := r2 (by omega); omega
        have HP4 : RowKit.Hid (500 < R.length → 500 < acc.length + AN * be.length) := by
          intro h
          rw [Nat.succ_mul] at MUL
          by_cases h9 : ac.length + be.length ≤ 500
          · have := congrArg List.length (r1 h9)
            rw [List.length_append] at this
            omega
          · omega
        by_cases hz : rn = an
        · have ez : ((rn : Int) == (an : Int)) = true := beq_iff_eq.2 (by omega)
          have hbe : be = [] := by
            have h10 : R.length = ac.length := by rw [← HRN.out, hz, HAN.out]
            by_cases h9 : ac.length + be.length ≤ 500
            · have := congrArg List.length (r1 h9)
              rw [List.length_append] at this
              exact List.length_eq_zero_iff.1 (by omega)
            · have := r2 (by omega); omega
          have HP5 : R.length ≤ 500 → R = acc ++ (List.replicate AN be).flatten := by
            intro h
            rw [HP3.out h, hbe]
            simp
          obtain ⟨f1, f2⟩ := OUTF.out R HP5 HP4.out
          have F1 := Lib.hid f1
          have F2 := Lib.hid f2
          clear f1 f2 HP3 HP4 HP5 r1 r2 MUL hACL hbe hz
          go_wp2_with fail
          go_roundw
          case rel => exact ⟨r, k + 1 + fl + 1, R, by go_num, by omega, HD2, F1, F2, HW2, HS2, HQ2, r3, S5⟩
          case measure => simp [intOf]; omega
        have ez : ((rn : Int) == (an : Int)) = false := beq_eq_false_iff_ne.2 (by omega)
        clear r1 r2 MUL hACL hz
        go_wp2_with fail
        go_roundw
        case rel => exact ⟨j + 1, R, by omega, by go_num, HP3, HP4, r3, S5⟩
        case measure => simp [intOf]; omega
set_option maxHeartbeats 2000000 in
theorem s_ExpandProgram (v : Value) (xs : List Cmd) (w : World) (hv : Rds LCmd w v xs) :
    Calls Try.prog 15 #[v] w fun e w' => ∃ r, e = .returned (.tuple #[r, .bool (expandOk xs)]) ∧ St w w' [Own LCmd r (expandL xs)] := by
  have H := s_ProgramValid v xs w hv
  cases hB : progB xs with
  | false =>
    rw [hB] at H
    have h1 : expandOk xs = false := by rw [expandOk, hB]; rfl
    have h2 : expandL xs = [] := by rw [expandL, h1]; rfl
    rw [h1, h2]
    clear hB h1 h2
    go_enter Try.func15, Try.ntmps15
    go_wp2_with fail
    refine H.mono ?_
    rintro e w1 ⟨rfl, g1⟩
    have S := ((St.refl w).grow g1).ownEmpty LCmd
    go_wp2_with fail
    exact bodyPost_ret (v := .tuple #[.slice (some ⟨w1.heap.size, 0, none⟩) 0 0, .bool false]) (by simp [results, Try.results15, go_sem]) rfl ⟨_, rfl, S⟩
  | true =>
    rw [hB] at H
    obtain ⟨hw, hf⟩ := parseF_ok hB
    have hl := progB_len hB
    obtain ⟨a, n, cap, rfl, -, -, HN, -⟩ := LCmd_get hv
    have REC : RowKit.Hid (∀ (u : Value) (w1 : World), St w w1 [Own LCmd u []] → Calls Try.prog 28 #[.slice a n cap, .int .i64 0, .int .i64 (n : Int), u] w1 (SexQ w [] (parseF xs).exp [])) := fun u w1 S => l20Expand_s w [] _ (parseF xs) xs 0 0 (n : Int) [] _ u [] w1 rfl hw (by rw [hf]; simp) (by omega) hl rfl (by rw [hf, HN.out]; simp) hv (by simp) S
    have h1 : expandOk xs = okL (parseF xs).exp := by rw [expandOk, hB]; rfl
    have h2 : expandL xs = if okL (parseF xs).exp then (parseF xs).exp else [] := by rw [expandL, h1]
    rw [h1, h2]
    generalize (parseF xs).exp = E at REC ⊢
    clear hB hw hf hl h1 h2
    cases hq : okL E with
    | true =>
      go_enter Try.func15, Try.ntmps15
      go_wp2_with fail
      refine H.mono ?_
      rintro e w1 ⟨rfl, g1⟩
      have S := ((St.refl w).grow g1).ownEmpty LCmd
      go_wp2_with fail
      refine (REC.out _ _ S).mono ?_
      rintro e1 w3 ⟨rv, R, rfl, r1, r2, r3, S3⟩
      have hle : E.length ≤ 500 := by simpa [okL] using hq
      obtain rfl : R = E := by have := r1 (by simpa using hle); simpa using this
      obtain ⟨ra, rn, rc, rfl, -, -, HRN, -⟩ := LCmd_own S3
      have hrn : ¬ 500 < (rn : Int) := by have := HRN.out; omega
      clear r1 r2 r3 hq
      go_wp2_with fail
      exact bodyPost_ret (v := .tuple #[.slice ra rn rc, .bool true]) (by simp [results, Try.results15, go_sem]) rfl ⟨_, rfl, S3⟩
    | false =>
      go_enter Try.func15, Try.ntmps15
      go_wp2_with fail
      refine H.mono ?_
      rintro e w1 ⟨rfl, g1⟩
      have S := ((St.refl w).grow g1).ownEmpty LCmd
      go_wp2_with fail
      refine (REC.out _ _ S).mono ?_
      rintro e1 w3 ⟨rv, R, rfl, r1, r2, r3, S3⟩
      have hle : 500 < E.length := by simp [okL] at hq; exact hq
      have hR := r2 (by simpa using hle)
      obtain ⟨ra, rn, rc, rfl, -, -, HRN, -⟩ := LCmd_own S3
      have hrn : 500 < (rn : Int) := by have := HRN.out; omega
      have S4 := (St.tail S3).ownEmpty LCmd
      clear r1 r2 r3 hq
      go_wp2_with fail
      exact bodyPost_ret (v := .tuple #[.slice (some ⟨w3.heap.size, 0, none⟩) 0 0, .bool false]) (by simp [results, Try.results15, go_sem]) rfl ⟨_, rfl, S4⟩
end Go.Proofs.Ytbhelobahfgaeaa
