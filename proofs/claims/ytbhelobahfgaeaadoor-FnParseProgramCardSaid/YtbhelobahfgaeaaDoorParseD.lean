/-
  The draw of lines for the law on ParseProgram: lines of a program, at most one of them changed or left out.
-/
import Derived.Test.YtbhelobahfgaeaaDoorCmdDraw
import Derived.Test.YtbhelobahfgaeaaDoorFormat
import Derived.Test.YtbhelobahfgaeaaDoorReadLaw
import Derived.Test.YtbhelobahfgaeaaDoorStringS
import Derived.Test.YtbhelobahfgaeaaDoorLoc
import Derived.Test.YtbhelobahfgaeaaDoorBlk
import Derived.Test.YtbhelobahfgaeaaDoorDrawn2
import Derived.Test.YtbhelobahfgaeaaDoorDeep
import Derived.Test.YtbhelobahfgaeaaDoorDrawn3
namespace Go.Proofs.YtbhelobahfgaeaaDoor
open Go Go.RowKit
set_option linter.unusedVariables false
/-- The first k of a row of the call's own. -/
theorem St.ownTake {α : Type} {L : Lay α} {w0 w : World} {g n cap : Nat} {xs : List α} {Ls : List Asr} (S : St w0 w (Own L (.slice (some ⟨g, 0, none⟩) n cap) xs :: Ls)) (k : Nat) (hk : k ≤ xs.length) :
    St w0 w (Own L (.slice (some ⟨g, 0, none⟩) k cap) (xs.take k) :: Ls) := by
  refine S.mono ?_
  rintro F ⟨h, rfl⟩
  have hl : (xs.take k).length = k := by rw [List.length_take]; omega
  refine ⟨?_, rfl⟩
  rcases h.form with ⟨hv, _⟩ | ⟨g', cap', cur, hv, hn, hm, hg, hs, ht⟩
  · simp at hv
  · simp only [Value.slice.injEq, Option.some.injEq, Addr.mk.injEq, and_true] at hv
    obtain ⟨rfl, rfl, rfl⟩ := hv
    refine ⟨by rw [L.flat_len], .inr ⟨g, cap, cur, by rw [hl], Nat.zero_le _, hg, by rw [hl]; omega, hm, hs, ?_⟩⟩
    have e : L.flat (xs.take k) = (L.flat xs).take (k * L.s) := by
      have h2 : L.flat xs = L.flat (xs.take k) ++ L.flat (xs.drop k) := by rw [← L.flat_append, List.take_append_drop]
      have h3 : (L.flat (xs.take k)).length = k * L.s := by rw [L.flat_len, hl]
      rw [h2, ← h3, List.take_left]
    rw [hl, e, ← ht, List.take_take]
    congr 1
    have := Nat.mul_le_mul_right L.s hk
    omega
def DrawQ (w : World) (e : Ending) (w' : World) : Prop := ∃ v ls, e = .returned v ∧ ls.length ≤ 30 ∧ (∀ x ∈ ls, x.size ≤ 1000) ∧ St w w' [Own LS v ls]
def SZ (n : Nat) (ls : List ByteArray) : Prop := ls.length = n ∧ ∀ x ∈ ls, x.size ≤ 1000
theorem SZ.set {n : Nat} {ls : List ByteArray} (h : SZ n ls) (k : Nat) (x : ByteArray) (hx : x.size ≤ 1000) : SZ n (ls.set k x) := by
  refine ⟨by rw [List.length_set]; exact h.1, fun y hy => ?_⟩
  rcases List.mem_or_eq_of_mem_set hy with hy | rfl
  · exact h.2 y hy
  · exact hx
theorem SZ.cut {n : Nat} {ls : List ByteArray} (h : SZ n ls) (k : Nat) : (ls.take k ++ ls.drop (k + 1)).length ≤ n ∧ ∀ x ∈ ls.take k ++ ls.drop (k + 1), x.size ≤ 1000 := by
  refine ⟨by rw [List.length_append, List.length_take, List.length_drop, h.1]; omega, fun x hx => h.2 x ?_⟩
  rcases List.mem_append.1 hx with hx | hx
  · exact List.mem_of_mem_take hx
  · exact List.mem_of_mem_drop hx
theorem SZ.fin {w w' : World} {n : Nat} {v : Value} {ls : List ByteArray} (h : SZ n ls) (hn : n ≤ 30) (S : St w w' [Own LS v ls]) : DrawQ w (.returned v) w' := ⟨v, ls, rfl, by rw [h.1]; exact hn, h.2, S⟩
theorem format_sz (xs : List Cmd) : (formatL xs).length ≤ 30 ∧ ∀ x ∈ formatL xs, x.size ≤ 40 := by
  unfold formatL
  cases h : progB xs with
  | false => rw [if_neg (by decide)]; exact ⟨by simp, by simp⟩
  | true =>
    rw [if_pos rfl]
    refine ⟨by rw [List.length_map]; exact progB_len h, fun x hx => ?_⟩
    obtain ⟨c, hc, rfl⟩ := List.mem_map.1 hx
    obtain ⟨j, hj, rfl⟩ := List.getElem_of_mem hc
    exact line_size (progB_cmd h j _ (List.getElem?_eq_getElem hj))
/-- The eight texts that a line may become. -/
def eight : Array Value := #[.string ⟨#[103, 114, 105, 112, 32]⟩, .string ⟨#[109, 111, 118, 101, 32, 49]⟩, .string ⟨#[119, 97, 105, 116, 32, 48]⟩, .string ⟨#[114, 101, 112, 101, 97, 116, 32, 50]⟩, .string ⟨#[101, 110, 100]⟩, .string ⟨#[109, 111, 118, 101, 32, 45, 48, 32, 49]⟩, .string ⟨#[]⟩, .string ⟨#[119, 97, 105, 116, 32, 48, 48, 55]⟩]
theorem eight_at (P : Nat) (h : P < 8) : ∃ t : ByteArray, eight[P]? = some (.string t) ∧ t.size ≤ 1000 := by
  rcases (show P = 0 ∨ P = 1 ∨ P = 2 ∨ P = 3 ∨ P = 4 ∨ P = 5 ∨ P = 6 ∨ P = 7 by omega) with rfl | rfl | rfl | rfl | rfl | rfl | rfl | rfl
  all_goals exact ⟨_, rfl, by decide⟩
/-- A region that appends to a row what the row holds further on. -/
def JC (w0 : World) (v : Value) (xs ys : List ByteArray) (da dd : Bool) (r o : Value) (w : World) : Prop :=
  (dd = true → o = r) ∧ (da = true → St w0 w [Own LS r ys]) ∧ (da = false → St w0 w [Own LS v xs])
theorem JC.start {w0 w : World} {v r o : Value} {xs ys : List ByteArray} (S : St w0 w [Own LS v xs]) : JC w0 v xs ys false false r o w := ⟨nofun, nofun, fun _ => S⟩
theorem JC.row {w0 w : World} {v r o : Value} {xs ys : List ByteArray} {da dd : Bool} (h : JC w0 v xs ys da dd r o w) (ha : da = false) : St w0 w [Own LS v xs] := h.2.2 ha
theorem JC.app {w0 w : World} {v r o : Value} {xs ys : List ByteArray} {dd : Bool} (S : St w0 w [Own LS r ys]) (hd : dd = false) : JC w0 v xs ys true dd r o w := by
  subst hd
  exact ⟨nofun, fun _ => S, nofun⟩
theorem JC.asg {w0 w : World} {v r o : Value} {xs ys : List ByteArray} {da dd : Bool} (h : JC w0 v xs ys da dd r o w) : JC w0 v xs ys da true r r w := ⟨fun _ => rfl, h.2⟩
theorem JC.fin {w0 w : World} {v r o : Value} {xs ys : List ByteArray} {da dd : Bool} (h : JC w0 v xs ys da dd r o w) (ha : da = true) (hd : dd = true) : o = r ∧ St w0 w [Own LS r ys] := ⟨h.1 hd, h.2.1 ha⟩
def strSh (H z : Nat) : Sh2 H := ⟨fun v _ => ∃ t : ByteArray, v = .string t ∧ t.size ≤ z, fun _ _ _ h _ => h⟩
def ptrSh (H z : Nat) : Sh2 H := ⟨fun v w => ∃ (g o : Nat) (t : ByteArray), v = .pointer (some ⟨g, o, none⟩) ∧ H ≤ g ∧ w.cell? ⟨g, o, none⟩ = some (.string t) ∧ t.size ≤ z, fun v w w' h hl => by
  obtain ⟨g, o, t, rfl, hg, hc, hz⟩ := h
  exact ⟨g, o, t, rfl, hg, hl.cell hg hc, hz⟩⟩
def rowSh (H n z : Nat) : Sh2 H := ⟨fun v w => ∃ g : Nat, v = .slice (some ⟨g, 0, none⟩) n n ∧ H ≤ g ∧ ∀ j, j < n → ∃ t : ByteArray, w.cell? ⟨g, j, none⟩ = some (.string t) ∧ t.size ≤ z, fun v w w' h hl => by
  obtain ⟨g, rfl, hg, hc⟩ := h
  refine ⟨g, rfl, hg, fun j hj => ?_⟩
  obtain ⟨t, ht, hz⟩ := hc j hj
  exact ⟨t, hl.cell hg ht, hz⟩⟩
theorem St.ownLt {α : Type} {L : Lay α} {w0 w : World} {v : Value} {xs : List α} {Ls : List Asr} (S : St w0 w (Own L v xs :: Ls)) {g : Nat} (hv : v.ownBlock = some g) : g < w.heap.size := by
  obtain ⟨F, ⟨h1, rfl⟩, h⟩ := S.head
  exact (h g (by simp [hv])).2
set_option maxRecDepth 100000 in
set_option maxHeartbeats 4000000 in
theorem DrawParseProgram_any (a : Option Addr) (len cap : Nat) (w : World) (h : Byts w a len cap) :
    Calls Tryd.prog 26 #[.slice a len cap] w (DrawQ w) := by
  go_enter Tryd.func26, Tryd.ntmps26
  go_wp2_with fail
  refine (open_s a len cap w h).mono ?_
  rintro e w1 ⟨B, rfl, S⟩
  go_wp2_with fail
  refine (prog_s w B 0 _ 0 _ S (by omega) (by omega)).mono ?_
  rintro e w2 ⟨v, xs, m, rfl, hxl, hm, S1⟩
  clear S
  go_wp2_with fail
  refine (s_FormatProgram v xs _ (St.own S1)).mono ?_
  rintro e w3 ⟨r, rfl, T⟩
  have S2 := (S1.tail).call T
  clear T S1
  simp only [List.cons_append, List.nil_append] at S2
  obtain ⟨hfl, hfz⟩ := format_sz xs
  generalize formatL xs = ls at S2 hfl hfz
  have Z0 : RowKit.Hid (SZ ls.length ls) := ⟨rfl, fun x hx => Nat.le_trans (hfz x hx) (by decide)⟩
  have HF := Lib.hid hfz
  clear hfz
  by_cases h0 : ls.length = 0
  · obtain ⟨ra, n, rc, rfl, -, -, HN, -⟩ := LS_own S2
    obtain rfl : n = 0 := by rw [HN.out]; exact h0
    have S3 := Lib.hid (St.drop1 (Ms := [_]) S2)
    clear S2
    go_wp2_with fail
    go_ret
    exact Z0.out.fin hfl S3.out
  · obtain ⟨g, cap, rfl, hc1, hc2⟩ := S2.ownBlk (by omega)
    obtain ⟨n, hn⟩ : ∃ n, n = ls.length := ⟨_, rfl⟩
    rw [← hn] at S2 hc1 h0 hfl Z0 ⊢
    have HN := Lib.hid hn
    clear hn
    have hn0 : 0 < n := by omega
    have S3 := S2.swap
    clear S2
    go_wp2_with fail
    refine (pick_s w B _ _ 2 _ S3 (by omega)).mono ?_
    rintro e w4 ⟨p, rfl, -, S4⟩
    clear S3
    by_cases hp : p = 0
    · subst hp
      go_wp2_with fail
      refine (pick_s w B _ _ n _ S4 (by omega)).mono ?_
      rintro e w5 ⟨q, rfl, ⟨q0, q1, -⟩, S5⟩
      replace q1 := q1 (by omega)
      obtain ⟨ix, rfl⟩ := Int.eq_ofNat_of_zero_le q0
      have hK : ix < n := by omega
      clear S4 q0 q1
      obtain ⟨s0, hs0⟩ : ∃ s0, ls[ix]? = some s0 := ⟨_, List.getElem?_eq_getElem (by rw [← HN.out]; exact hK)⟩
      have hsz : s0.size ≤ 40 := HF.out s0 (List.mem_of_getElem? hs0)
      have cw0 := St.ownCell (S5.swap) (g := g) rfl ix s0 hs0 0 _ rfl
      have cw : w5.cell? ⟨g, ix, none⟩ = some (.string s0) := by
        have e : ix * LS.s + 0 = ix := by show ix * 1 + 0 = _; omega
        rw [e] at cw0
        exact cw0
      clear cw0 hs0
      go_wp2_with fail
      refine (pick_s w B _ _ 4 _ S5 (by omega)).mono ?_
      rintro e w6 ⟨c, rfl, ⟨c0, c1, -⟩, S6⟩
      replace c1 := c1 (by omega)
      clear S5 cw
      rcases (show c = 0 ∨ c = 1 ∨ c = 2 ∨ c = 3 by omega) with rfl | rfl | rfl | rfl
      · have S7 := (S6.loc eight 9).swap
        have S7 : St w (w6.alloc (.cells #[.string ⟨#[103, 114, 105, 112, 32]⟩, .string ⟨#[109, 111, 118, 101, 32, 49]⟩, .string ⟨#[119, 97, 105, 116, 32, 48]⟩, .string ⟨#[114, 101, 112, 101, 97, 116, 32, 50]⟩, .string ⟨#[101, 110, 100]⟩, .string ⟨#[109, 111, 118, 101, 32, 45, 48, 32, 49]⟩, .string ⟨#[]⟩, .string ⟨#[119, 97, 105, 116, 32, 48, 48, 55]⟩] 9)) [Rdr w B (m + 1 + 1 + 1), Loc w6.heap.size 9 eight, Own LS (.slice (some ⟨g, 0, none⟩) n cap) ls] := S7
        obtain ⟨H6, hH6⟩ : ∃ H6, H6 = w6.heap.size := ⟨_, rfl⟩
        rw [← hH6] at S7
        clear S6
        go_wp2_with fail
        rw [← hH6]
        clear hH6
        refine (pick_s w B _ _ 8 _ S7 (by omega)).mono ?_
        rintro e w7 ⟨P, rfl, ⟨P0, P1, -⟩, S8⟩
        replace P1 := P1 (by omega)
        obtain ⟨J, rfl⟩ := Int.eq_ofNat_of_zero_le P0
        obtain ⟨t, ht, htz⟩ := eight_at J (by omega)
        have z0 := St.locCell (S8.swap) J _ ht
        have hJ : J < 8 := by omega
        have S9 := St.moveOut (Ms := [_, _]) S8
        have zf := fun j => S9.ownFrozen (g := g) rfl j
        obtain ⟨s1, hs1⟩ : ∃ s1, ls[ix]? = some s1 := ⟨_, List.getElem?_eq_getElem (by rw [← HN.out]; exact hK)⟩
        have cw0 := St.ownCell S9 (g := g) rfl ix s1 hs1 0 _ rfl
        have cw : w7.cell? ⟨g, ix, none⟩ = some (.string s1) := by
          have e : ix * LS.s + 0 = ix := by show ix * 1 + 0 = _; omega
          rw [e] at cw0
          exact cw0
        have S10 := Lib.hid (St.drop1 (Ms := [_]) (LS_set S9 (g := g) rfl ix t (by rw [← HN.out]; exact hK)))
        have ZS := Lib.hid (Z0.out.set ix t htz)
        clear S7 S8 S9 cw0 hs1 ht htz P0 P1
        go_wp2_with fail
        go_ret
        exact ZS.out.fin hfl S10.out
      · have hs41 : s0.size + 1 ≤ 41 := by omega
        go_wp2_with fail
        refine (pick_s w B _ _ ((s0.size : Int) + 1) _ S6 (by omega)).mono ?_
        rintro e w7 ⟨J, rfl, ⟨J0, J1, -⟩, S7⟩
        replace J1 := J1 (by omega)
        obtain ⟨J, rfl⟩ := Int.eq_ofNat_of_zero_le J0
        have hJs : J ≤ s0.size := by omega
        have hJi : (J : Int) ≤ (s0.size : Int) := by omega
        have hK0 := hK
        obtain ⟨H, hH⟩ : ∃ H, H = w7.heap.size := ⟨_, rfl⟩
        have hBH := (St.rdrLt S7).2
        have hgH := St.ownLt (S7.swap) (g := g) rfl
        rw [← hH] at hBH hgH
        clear S6 J0 J1
        go_wp2_with fail
        refine wp_drawn_put2 (shs2 (H) [sh2Val _ (.slice (some ⟨g, 0, none⟩) n cap), sh2Val _ (.int .i64 (ix : Int)), sh2Val _ (.string s0), sh2Val _ (.int .i64 (J : Int)), sh2Val _ (.string (s0.extract 0 J)), (rowSh _ 5 10), sh2Val _ (.pointer (some ⟨B, 0, none⟩)), sh2In _ (0) (4), (ptrSh _ 10), (strSh _ 10), (strSh _ 60), sh2Val _ (.string s0), sh2Val _ (.string s0), sh2Val _ (.int .i64 (s0.size : Int)), sh2Val _ (.int .i64 (J : Int)), sh2Val _ (.pointer (some ⟨B, 0, none⟩)), sh2In _ (0) (1), sh2In _ (0) (41), sh2In _ (0) ((s0.size:Int)), (strSh _ 40), (strSh _ 100), sh2Val _ (.pointer (some ⟨g, ix, none⟩)), sh2Top _])
          (fun k w' => (H) ≤ w'.heap.size ∧ ∃ ls' : List ByteArray, RowKit.Hid (SZ n ls') ∧ St w w' (Rdr w B ((m + 1 + 1 + 1 + 1) + k) :: [Own LS (.slice (some ⟨g, 0, none⟩) n cap) ls'])) (H) (by kernel_rfl) (by kernel_rfl) (shs2_st _ _) ⟨by rw [hH]; exact Nat.le_refl _, ls, Z0, S7.drew⟩ ?_ ?_
        · refine step_plain2 rfl (fun k a w' hk hJ hd hs K hK => ?_) ?_
          · have e4 : a.tmps[4]?.getD undef = .slice (some ⟨g, 0, none⟩) n cap := hs.at 4 (by kernel_rfl)
            clear hd hs
            have hkk : k < 23 := hk
            clear hk
            obtain ⟨hH, ls', hz', hS⟩ := hJ
            have HH := Lib.hid hH; have HS := Lib.hid hS; clear hH hS
            go_simp
            try simp (disch := omega) only [IntWalk.i64_in]
            exact hK.out _ _ rfl ⟨HH.out, ls', hz', HS.out.rdrMono (by omega)⟩ (lowB.refl _ _)
          refine step_plain2 rfl (fun k a w' hk hJ hd hs K hK => ?_) ?_
          · have e5 : a.tmps[5]?.getD undef = .int .i64 (ix : Int) := hs.at 5 (by kernel_rfl)
            clear hd hs
            have hkk : k < 23 := hk
            clear hk
            obtain ⟨hH, ls', hz', hS⟩ := hJ
            have HH := Lib.hid hH; have HS := Lib.hid hS; clear hH hS
            go_simp
            try simp (disch := omega) only [IntWalk.i64_in]
            exact hK.out _ _ rfl ⟨HH.out, ls', hz', HS.out.rdrMono (by omega)⟩ (lowB.refl _ _)
          refine step_plain2 rfl (fun k a w' hk hJ hd hs K hK => ?_) ?_
          · have e6 : a.tmps[6]?.getD undef = .string s0 := hs.at 6 (by kernel_rfl)
            clear hd hs
            have hkk : k < 23 := hk
            clear hk
            obtain ⟨hH, ls', hz', hS⟩ := hJ
            have HH := Lib.hid hH; have HS := Lib.hid hS; clear hH hS
            go_simp
            try simp (disch := omega) only [IntWalk.i64_in]
            exact hK.out _ _ rfl ⟨HH.out, ls', hz', HS.out.rdrMono (by omega)⟩ (lowB.refl _ _)
          refine step_plain2 rfl (fun k a w' hk hJ hd hs K hK => ?_) ?_
          · have e7 : a.tmps[7]?.getD undef = .int .i64 (J : Int) := hs.at 7 (by kernel_rfl)
            clear hd hs
            have hkk : k < 23 := hk
            clear hk
            obtain ⟨hH, ls', hz', hS⟩ := hJ
            have HH := Lib.hid hH; have HS := Lib.hid hS; clear hH hS
            go_simp
            try simp (disch := omega) only [IntWalk.i64_in]
            exact hK.out _ _ rfl ⟨HH.out, ls', hz', HS.out.rdrMono (by omega)⟩ (lowB.refl _ _)
          refine step_plain2 rfl (fun k a w' hk hJ hd hs K hK => ?_) ?_
          · have e50 : a.tmps[50]?.getD undef = .string s0 := hs.get 2 50 (by kernel_rfl) (by kernel_rfl)
            have e51 : a.tmps[51]?.getD undef = .int .i64 (J : Int) := hs.get 3 51 (by kernel_rfl) (by kernel_rfl)
            clear hd hs
            have hkk : k < 23 := hk
            clear hk
            obtain ⟨hH, ls', hz', hS⟩ := hJ
            have HH := Lib.hid hH; have HS := Lib.hid hS; clear hH hS
            go_simp
            try simp (disch := omega) only [IntWalk.i64_in]
            exact hK.out _ _ rfl ⟨HH.out, ls', hz', HS.out.rdrMono (by omega)⟩ (lowB.refl _ _)
          refine step_plain2 rfl (fun k a w' hk hJ hd hs K hK => ?_) ?_
          · clear hd hs
            have hkk : k < 23 := hk
            clear hk
            obtain ⟨hH', ls', hz', hS⟩ := hJ
            have HH := Lib.hid hH'; have HS := Lib.hid hS; clear hH' hS
            go_simp
            refine hK.out _ _ ⟨w'.heap.size, rfl, HH.out, fun j hj => ?_⟩ ⟨Nat.le_trans HH.out (by simp), ls', hz', (HS.out.alloc _).rdrMono (by omega)⟩ (lowB.new _ _ _)
            rcases (show j = 0 ∨ j = 1 ∨ j = 2 ∨ j = 3 ∨ j = 4 by omega) with rfl | rfl | rfl | rfl | rfl
            · exact ⟨⟨#[]⟩, by simp [go_sem], by decide⟩
            · exact ⟨⟨#[32]⟩, by simp [go_sem], by decide⟩
            · exact ⟨⟨#[45]⟩, by simp [go_sem], by decide⟩
            · exact ⟨⟨#[49]⟩, by simp [go_sem], by decide⟩
            · exact ⟨⟨#[120]⟩, by simp [go_sem], by decide⟩
          refine step_plain2 rfl (fun k a w' hk hJ hd hs K hK => ?_) ?_
          · have e3 : a.tmps[3]?.getD undef = .pointer (some ⟨B, 0, none⟩) := hs.at 3 (by kernel_rfl)
            clear hd hs
            have hkk : k < 23 := hk
            clear hk
            obtain ⟨hH, ls', hz', hS⟩ := hJ
            have HH := Lib.hid hH; have HS := Lib.hid hS; clear hH hS
            go_simp
            try simp (disch := omega) only [IntWalk.i64_in]
            exact hK.out _ _ rfl ⟨HH.out, ls', hz', HS.out.rdrMono (by omega)⟩ (lowB.refl _ _)
          refine step_plain2 rfl (fun k a w' hk hJ hd hs K hK => ?_) ?_
          · have e54 : a.tmps[54]?.getD undef = .pointer (some ⟨B, 0, none⟩) := hs.get 6 54 (by kernel_rfl) (by kernel_rfl)
            clear hd hs
            have hkk : k < 23 := hk
            clear hk
            obtain ⟨hH, ls', hz', hS⟩ := hJ
            have HH := Lib.hid hH; have HS := Lib.hid hS; clear hH hS
            go_simp
            refine (pick_g _ _ _ _ _ _ HS.out (by omega)).mono ?_
            rintro e w2 ⟨v, rfl, ⟨p1, p2, _⟩, hr, hg⟩
            exact hK.out _ _ ⟨v, rfl, by omega, by have := p2 (by omega); omega⟩ ⟨Nat.le_trans HH.out hg.size, ls', hz', hr⟩ (lowB.of hg (fun c hc => by rw [← Option.some.inj hc]; exact hBH))
          refine step_plain2 rfl (fun k a w' hk hJ hd hs K hK => ?_) ?_
          · have e53 := hs.get 5 53 (by kernel_rfl) (by kernel_rfl)
            obtain ⟨x55, e55, l55, u55⟩ : ∃ x : Int, a.tmps[55]?.getD undef = .int .i64 x ∧ (0) ≤ x ∧ x ≤ (4) := hs.get 7 55 (by kernel_rfl) (by kernel_rfl)
            clear hd hs
            have hkk : k < 23 := hk
            clear hk
            obtain ⟨gr, e53, hgr, c53⟩ : ∃ gr : Nat, a.tmps[53]?.getD undef = .slice (some ⟨gr, 0, none⟩) 5 5 ∧ H ≤ gr ∧ ∀ j, j < 5 → ∃ t : ByteArray, w'.cell? ⟨gr, j, none⟩ = some (.string t) ∧ t.size ≤ 10 := e53
            obtain ⟨mm, rfl⟩ := Int.eq_ofNat_of_zero_le (show 0 ≤ x55 by omega)
            obtain ⟨y, hy, hyz⟩ := c53 mm (by omega)
            clear c53
            have hbd : (mm : Int) < 5 := by omega
            obtain ⟨hH', ls', hz', hS⟩ := hJ
            have HH := Lib.hid hH'; have HS := Lib.hid hS; clear hH' hS
            go_simp
            exact hK.out _ _ ⟨gr, mm, y, rfl, hgr, hy, hyz⟩ ⟨HH.out, ls', hz', HS.out.rdrMono (by omega)⟩ (lowB.refl _ _)
          refine step_plain2 rfl (fun k a w' hk hJ hd hs K hK => ?_) ?_
          · have e56 := hs.get 8 56 (by kernel_rfl) (by kernel_rfl)
            clear hd hs
            have hkk : k < 23 := hk
            clear hk
            obtain ⟨gr, o, t, e56, hgr, hc, hz⟩ : ∃ (g o : Nat) (t : ByteArray), a.tmps[56]?.getD undef = .pointer (some ⟨g, o, none⟩) ∧ H ≤ g ∧ w'.cell? ⟨g, o, none⟩ = some (.string t) ∧ t.size ≤ 10 := e56
            obtain ⟨hH', ls', hz', hS⟩ := hJ
            have HH := Lib.hid hH'; have HS := Lib.hid hS; clear hH' hS
            go_simp
            exact hK.out _ _ ⟨t, rfl, hz⟩ ⟨HH.out, ls', hz', HS.out.rdrMono (by omega)⟩ (lowB.refl _ _)
          refine step_plain2 rfl (fun k a w' hk hJ hd hs K hK => ?_) ?_
          · have e52 : a.tmps[52]?.getD undef = .string (s0.extract 0 J) := hs.get 4 52 (by kernel_rfl) (by kernel_rfl)
            have e57 := hs.get 9 57 (by kernel_rfl) (by kernel_rfl)
            clear hd hs
            have hkk : k < 23 := hk
            clear hk
            obtain ⟨t, e57, hz⟩ : ∃ t : ByteArray, a.tmps[57]?.getD undef = .string t ∧ t.size ≤ 10 := e57
            obtain ⟨hH', ls', hz', hS⟩ := hJ
            have HH := Lib.hid hH'; have HS := Lib.hid hS; clear hH' hS
            have z1 : (s0.extract 0 J).size ≤ 40 := by rw [ByteArray.size_extract]; omega
            have z2 : ¬ 9223372036854775807 < J + t.size := by omega
            go_simp
            exact hK.out _ _ ⟨s0.extract 0 J ++ t, rfl, by rw [ByteArray.size_append]; omega⟩ ⟨HH.out, ls', hz', HS.out.rdrMono (by omega)⟩ (lowB.refl _ _)
          refine step_plain2 rfl (fun k a w' hk hJ hd hs K hK => ?_) ?_
          · have e6 : a.tmps[6]?.getD undef = .string s0 := hs.at 6 (by kernel_rfl)
            clear hd hs
            have hkk : k < 23 := hk
            clear hk
            obtain ⟨hH, ls', hz', hS⟩ := hJ
            have HH := Lib.hid hH; have HS := Lib.hid hS; clear hH hS
            go_simp
            try simp (disch := omega) only [IntWalk.i64_in]
            exact hK.out _ _ rfl ⟨HH.out, ls', hz', HS.out.rdrMono (by omega)⟩ (lowB.refl _ _)
          refine step_plain2 rfl (fun k a w' hk hJ hd hs K hK => ?_) ?_
          · have e6 : a.tmps[6]?.getD undef = .string s0 := hs.at 6 (by kernel_rfl)
            clear hd hs
            have hkk : k < 23 := hk
            clear hk
            obtain ⟨hH, ls', hz', hS⟩ := hJ
            have HH := Lib.hid hH; have HS := Lib.hid hS; clear hH hS
            go_simp
            try simp (disch := omega) only [IntWalk.i64_in]
            exact hK.out _ _ rfl ⟨HH.out, ls', hz', HS.out.rdrMono (by omega)⟩ (lowB.refl _ _)
          refine step_plain2 rfl (fun k a w' hk hJ hd hs K hK => ?_) ?_
          · have e60 : a.tmps[60]?.getD undef = .string s0 := hs.get 12 60 (by kernel_rfl) (by kernel_rfl)
            clear hd hs
            have hkk : k < 23 := hk
            clear hk
            obtain ⟨hH, ls', hz', hS⟩ := hJ
            have HH := Lib.hid hH; have HS := Lib.hid hS; clear hH hS
            go_simp
            try simp (disch := omega) only [IntWalk.i64_in]
            exact hK.out _ _ rfl ⟨HH.out, ls', hz', HS.out.rdrMono (by omega)⟩ (lowB.refl _ _)
          refine step_plain2 rfl (fun k a w' hk hJ hd hs K hK => ?_) ?_
          · have e7 : a.tmps[7]?.getD undef = .int .i64 (J : Int) := hs.at 7 (by kernel_rfl)
            clear hd hs
            have hkk : k < 23 := hk
            clear hk
            obtain ⟨hH, ls', hz', hS⟩ := hJ
            have HH := Lib.hid hH; have HS := Lib.hid hS; clear hH hS
            go_simp
            try simp (disch := omega) only [IntWalk.i64_in]
            exact hK.out _ _ rfl ⟨HH.out, ls', hz', HS.out.rdrMono (by omega)⟩ (lowB.refl _ _)
          refine step_plain2 rfl (fun k a w' hk hJ hd hs K hK => ?_) ?_
          · have e3 : a.tmps[3]?.getD undef = .pointer (some ⟨B, 0, none⟩) := hs.at 3 (by kernel_rfl)
            clear hd hs
            have hkk : k < 23 := hk
            clear hk
            obtain ⟨hH, ls', hz', hS⟩ := hJ
            have HH := Lib.hid hH; have HS := Lib.hid hS; clear hH hS
            go_simp
            try simp (disch := omega) only [IntWalk.i64_in]
            exact hK.out _ _ rfl ⟨HH.out, ls', hz', HS.out.rdrMono (by omega)⟩ (lowB.refl _ _)
          refine step_plain2 rfl (fun k a w' hk hJ hd hs K hK => ?_) ?_
          · have e63 : a.tmps[63]?.getD undef = .pointer (some ⟨B, 0, none⟩) := hs.get 15 63 (by kernel_rfl) (by kernel_rfl)
            clear hd hs
            have hkk : k < 23 := hk
            clear hk
            obtain ⟨hH, ls', hz', hS⟩ := hJ
            have HH := Lib.hid hH; have HS := Lib.hid hS; clear hH hS
            go_simp
            refine (pick_g _ _ _ _ _ _ HS.out (by omega)).mono ?_
            rintro e w2 ⟨v, rfl, ⟨p1, p2, _⟩, hr, hg⟩
            exact hK.out _ _ ⟨v, rfl, by omega, by have := p2 (by omega); omega⟩ ⟨Nat.le_trans HH.out hg.size, ls', hz', hr⟩ (lowB.of hg (fun c hc => by rw [← Option.some.inj hc]; exact hBH))
          refine step_plain2 rfl (fun k a w' hk hJ hd hs K hK => ?_) ?_
          · have e62 : a.tmps[62]?.getD undef = .int .i64 (J : Int) := hs.get 14 62 (by kernel_rfl) (by kernel_rfl)
            obtain ⟨x64, e64, l64, u64⟩ : ∃ x : Int, a.tmps[64]?.getD undef = .int .i64 x ∧ (0) ≤ x ∧ x ≤ (1) := hs.get 16 64 (by kernel_rfl) (by kernel_rfl)
            clear hd hs
            have hkk : k < 23 := hk
            clear hk
            obtain ⟨hH, ls', hz', hS⟩ := hJ
            have HH := Lib.hid hH; have HS := Lib.hid hS; clear hH hS
            go_simp
            try simp (disch := omega) only [IntWalk.i64_in]
            exact hK.out _ _ ⟨_, rfl, by omega, by omega⟩ ⟨HH.out, ls', hz', HS.out.rdrMono (by omega)⟩ (lowB.refl _ _)
          refine step_plain2 rfl (fun k a w' hk hJ hd hs K hK => ?_) ?_
          · have e61 : a.tmps[61]?.getD undef = .int .i64 (s0.size : Int) := hs.get 13 61 (by kernel_rfl) (by kernel_rfl)
            obtain ⟨x65, e65, l65, u65⟩ : ∃ x : Int, a.tmps[65]?.getD undef = .int .i64 x ∧ (0) ≤ x ∧ x ≤ (41) := hs.get 17 65 (by kernel_rfl) (by kernel_rfl)
            clear hd hs
            have hkk : k < 23 := hk
            clear hk
            obtain ⟨hH', ls', hz', hS⟩ := hJ
            have HH := Lib.hid hH'; have HS := Lib.hid hS; clear hH' hS
            go_simp
            exact hK.out _ _ ⟨min (s0.size : Int) x65, rfl, by omega, by omega⟩ ⟨HH.out, ls', hz', HS.out.rdrMono (by omega)⟩ (lowB.refl _ _)
          refine step_plain2 rfl (fun k a w' hk hJ hd hs K hK => ?_) ?_
          · have e59 : a.tmps[59]?.getD undef = .string s0 := hs.get 11 59 (by kernel_rfl) (by kernel_rfl)
            obtain ⟨x66, e66, l66, u66⟩ : ∃ x : Int, a.tmps[66]?.getD undef = .int .i64 x ∧ (0) ≤ x ∧ x ≤ ((s0.size:Int)) := hs.get 18 66 (by kernel_rfl) (by kernel_rfl)
            clear hd hs
            have hkk : k < 23 := hk
            clear hk
            obtain ⟨mm, rfl⟩ := Int.eq_ofNat_of_zero_le (show 0 ≤ x66 by omega)
            have hmm : mm ≤ s0.size := by omega
            obtain ⟨hH', ls', hz', hS⟩ := hJ
            have HH := Lib.hid hH'; have HS := Lib.hid hS; clear hH' hS
            go_simp
            exact hK.out _ _ ⟨s0.extract mm s0.size, rfl, by rw [ByteArray.size_extract]; omega⟩ ⟨HH.out, ls', hz', HS.out.rdrMono (by omega)⟩ (lowB.refl _ _)
          refine step_plain2 rfl (fun k a w' hk hJ hd hs K hK => ?_) ?_
          · have e58 := hs.get 10 58 (by kernel_rfl) (by kernel_rfl)
            have e67 := hs.get 19 67 (by kernel_rfl) (by kernel_rfl)
            clear hd hs
            have hkk : k < 23 := hk
            clear hk
            obtain ⟨t, e58, hz⟩ : ∃ t : ByteArray, a.tmps[58]?.getD undef = .string t ∧ t.size ≤ 60 := e58
            obtain ⟨t2, e67, hz2⟩ : ∃ t : ByteArray, a.tmps[67]?.getD undef = .string t ∧ t.size ≤ 40 := e67
            obtain ⟨hH', ls', hz', hS⟩ := hJ
            have HH := Lib.hid hH'; have HS := Lib.hid hS; clear hH' hS
            have z2 : ¬ 9223372036854775807 < t.size + t2.size := by omega
            go_simp
            exact hK.out _ _ ⟨t ++ t2, rfl, by rw [ByteArray.size_append]; omega⟩ ⟨HH.out, ls', hz', HS.out.rdrMono (by omega)⟩ (lowB.refl _ _)
          refine step_plain2 rfl (fun k a w' hk hJ hd hs K hK => ?_) ?_
          · have e48 : a.tmps[48]?.getD undef = .slice (some ⟨g, 0, none⟩) n cap := hs.get 0 48 (by kernel_rfl) (by kernel_rfl)
            have e49 : a.tmps[49]?.getD undef = .int .i64 (ix : Int) := hs.get 1 49 (by kernel_rfl) (by kernel_rfl)
            clear hd hs
            have hkk : k < 23 := hk
            clear hk
            obtain ⟨hH', ls', hz', hS⟩ := hJ
            have HH := Lib.hid hH'; have HS := Lib.hid hS; clear hH' hS
            go_simp
            exact hK.out _ _ rfl ⟨HH.out, ls', hz', HS.out.rdrMono (by omega)⟩ (lowB.refl _ _)
          refine step_plain2 rfl (fun k a w' hk hJ hd hs K hK => ?_) ?_
          · have e69 : a.tmps[69]?.getD undef = .pointer (some ⟨g, ix, none⟩) := hs.get 21 69 (by kernel_rfl) (by kernel_rfl)
            have e68 := hs.get 20 68 (by kernel_rfl) (by kernel_rfl)
            clear hd hs
            have hkk : k < 23 := hk
            clear hk
            obtain ⟨t, e68, hz⟩ : ∃ t : ByteArray, a.tmps[68]?.getD undef = .string t ∧ t.size ≤ 100 := e68
            obtain ⟨hH', ls', hz', hS⟩ := hJ
            have HH := Lib.hid hH'; have HS := Lib.hid hS; clear hH' hS
            have S8 := HS.out.swap
            have hlen := hz'.out.1
            obtain ⟨s1, hs1⟩ : ∃ s1, ls'[ix]? = some s1 := ⟨_, List.getElem?_eq_getElem (by rw [hlen]; exact hK0)⟩
            have zf := fun j => S8.ownFrozen (g := g) rfl j
            have cw0 := St.ownCell S8 (g := g) rfl ix s1 hs1 0 _ rfl
            have cw : w'.cell? ⟨g, ix, none⟩ = some (.string s1) := by
              have e : ix * LS.s + 0 = ix := by show ix * 1 + 0 = _; omega
              rw [e] at cw0
              exact cw0
            have S9 := Lib.hid (LS_set S8 (g := g) rfl ix t (by rw [hlen]; exact hK0))
            have hz2 := Lib.hid (hz'.out.set ix t (by omega))
            clear S8 cw0 hs1 hlen
            go_simp
            refine hK.out undef _ trivial ⟨?_, ls'.set ix t, hz2, ?_⟩ ?_
            · simpa using HH.out
            · exact (St.swap S9.out).rdrMono (by omega)
            · exact lowB.set _ _ hgH _ _
          exact step_nil2
        · intro vs w' hJ hA
          clear hA
          simp only [putAll, Act.put, List.setIfInBounds_toArray, List.set_cons_zero, List.set_cons_succ]
          obtain ⟨hH', ls', hz', S8⟩ := hJ
          have S9 := Lib.hid (St.tail S8)
          clear S8 S7
          go_wp2_with fail
          go_ret
          exact hz'.out.fin hfl S9.out
      · have S7 := St.tail S6
        clear S6
        have hcK : ix ≤ cap := by omega
        have hcK1 : ix + 1 ≤ cap := by omega
        have hn31 : n ≤ 30 := hfl
        have hwr : IntKind.i64.wrap ((ix : Int) + 1) = (ix : Int) + 1 := by rw [IntWalk.i64_left]; unfold wrap64; omega
        have hle1 : (ix : Int) ≤ (ix : Int) + 1 := by omega
        have hle2 : (0 : Int) ≤ (ix : Int) + 1 := by omega
        have hle3 : (ix : Int) + 1 ≤ (n : Int) := by omega
        by_cases hcap : cap = ix + 1
        · obtain rfl : n = ix + 1 := by omega
          subst hcap
          go_wp2_with fail
          refine wp_drawn_put3 (shp [some (.slice (some ⟨g, 0, none⟩) (ix + 1) (ix + 1)), some (.int .i64 (ix : Int)), some (.slice (some ⟨g, 0, none⟩) ix (ix + 1)), some (.slice (some ⟨g, 0, none⟩) (ix + 1) (ix + 1)), some (.int .i64 (ix : Int)), some (.int .i64 ((ix : Int) + 1)), some (.slice (some ⟨g, 0, none⟩) 0 0), none, none]) (fun D S w' => JC w (.slice (some ⟨g, 0, none⟩) (ix + 1) (ix + 1)) ls (ls.take ix ++ ls.drop (ix + 1)) (D 7) (D 8) (S 79) (S 4) w') (by kernel_rfl) (by kernel_rfl) (JC.start S7.drew) ?_ ?_
          · refine step_plain3 rfl (fun D a w hD hB hL hJ hd hs K hK => ?_) ?_
            · have e4 : a.tmps[4]?.getD undef = .slice (some ⟨g, 0, none⟩) (ix + 1) (ix + 1) := hs.yet 8 4 (by kernel_rfl) (by kernel_rfl)
              clear hB hL hD hd hs
              have HJ := Lib.hid hJ
              clear hJ
              go_simp
              exact hK.out _ _ rfl HJ.out (fun _ _ h => h)
            refine step_plain3 rfl (fun D a w hD hB hL hJ hd hs K hK => ?_) ?_
            · have e5 : a.tmps[5]?.getD undef = .int .i64 (ix : Int) := hs.at 5 (by kernel_rfl)
              clear hB hL hD hd hs
              have HJ := Lib.hid hJ
              clear hJ
              go_simp
              exact hK.out _ _ rfl HJ.out (fun _ _ h => h)
            refine step_plain3 rfl (fun D a w hD hB hL hJ hd hs K hK => ?_) ?_
            · have e72 : a.tmps[72]?.getD undef = .slice (some ⟨g, 0, none⟩) (ix + 1) (ix + 1) := hs.get 0 72 (by kernel_rfl) (by kernel_rfl)
              have e73 : a.tmps[73]?.getD undef = .int .i64 (ix : Int) := hs.get 1 73 (by kernel_rfl) (by kernel_rfl)
              clear hB hL hD hd hs
              have HJ := Lib.hid hJ
              clear hJ
              go_simp
              exact hK.out _ _ rfl HJ.out (fun _ _ h => h)
            refine step_plain3 rfl (fun D a w hD hB hL hJ hd hs K hK => ?_) ?_
            · have e4 : a.tmps[4]?.getD undef = .slice (some ⟨g, 0, none⟩) (ix + 1) (ix + 1) := hs.yet 8 4 (by kernel_rfl) (by kernel_rfl)
              clear hB hL hD hd hs
              have HJ := Lib.hid hJ
              clear hJ
              go_simp
              exact hK.out _ _ rfl HJ.out (fun _ _ h => h)
            refine step_plain3 rfl (fun D a w hD hB hL hJ hd hs K hK => ?_) ?_
            · have e5 : a.tmps[5]?.getD undef = .int .i64 (ix : Int) := hs.at 5 (by kernel_rfl)
              clear hB hL hD hd hs
              have HJ := Lib.hid hJ
              clear hJ
              go_simp
              exact hK.out _ _ rfl HJ.out (fun _ _ h => h)
            refine step_plain3 rfl (fun D a w hD hB hL hJ hd hs K hK => ?_) ?_
            · have e76 : a.tmps[76]?.getD undef = .int .i64 (ix : Int) := hs.get 4 76 (by kernel_rfl) (by kernel_rfl)
              clear hB hL hD hd hs
              have HJ := Lib.hid hJ
              clear hJ
              go_simp
              exact hK.out _ _ rfl HJ.out (fun _ _ h => h)
            refine step_plain3 rfl (fun D a w hD hB hL hJ hd hs K hK => ?_) ?_
            · have e75 : a.tmps[75]?.getD undef = .slice (some ⟨g, 0, none⟩) (ix + 1) (ix + 1) := hs.get 3 75 (by kernel_rfl) (by kernel_rfl)
              have e77 : a.tmps[77]?.getD undef = .int .i64 ((ix : Int) + 1) := hs.get 5 77 (by kernel_rfl) (by kernel_rfl)
              clear hB hL hD hd hs
              have HJ := Lib.hid hJ
              clear hJ
              go_simp
              exact hK.out _ _ rfl HJ.out (fun _ _ h => h)
            refine step_plain3 rfl (fun D a w hD hB hL hJ hd hs K hK => ?_) ?_
            · have e74 : a.tmps[74]?.getD undef = .slice (some ⟨g, 0, none⟩) ix (ix + 1) := hs.get 2 74 (by kernel_rfl) (by kernel_rfl)
              have e78 : a.tmps[78]?.getD undef = .slice (some ⟨g, 0, none⟩) 0 0 := hs.get 6 78 (by kernel_rfl) (by kernel_rfl)
              have h8 := hL 8 (by kernel_rfl)
              have SS := (JC.row hJ hD).ownTake ix (by rw [← HN.out]; omega)
              have RR : Rds LS w (.slice (some ⟨g, 0, none⟩) 0 0) (ls.drop (ix + 1)) := by
                have R0 := St.own (JC.row hJ hD)
                rw [List.drop_eq_nil_of_le (by rw [← HN.out]; omega)]
                exact ⟨_, 0, rfl, Nat.le_refl _, Nat.zero_le _, .inl rfl⟩
              clear hJ hB hL hD hd hs
              refine wp_appR LS_info (.tmp 74) (.tmp 78) rfl SS (by simp [Act.eval, e74]) (ls.drop (ix + 1)) _ (by simp [Act.eval, e78]) RR (by rw [List.length_take, List.length_drop, ← HN.out]; omega) ?_
              intro v' w' S'
              exact hK.out _ _ trivial (JC.app S' h8) (fun _ _ h => h)
            refine step_plain3 rfl (fun D a w hD hB hL hJ hd hs K hK => ?_) ?_
            · obtain ⟨x79, e79⟩ : ∃ x : Value, a.tmps[79]?.getD undef = x := ⟨_, rfl⟩
              have HJ := Lib.hid (JC.asg hJ)
              clear hJ hB hL hD hd hs
              go_simp
              subst e79
              exact hK.out _ _ trivial HJ.out (fun _ _ h => h)
            exact step_nil3
          · intro vs D w' hD hJ hA
            obtain ⟨h1', S8⟩ := JC.fin hJ (hD 7 (by decide)) (hD 8 (by decide))
            rw [sl_put vs (by kernel_rfl) 8 4 (by kernel_rfl), sl_put vs (by kernel_rfl) 7 79 (by kernel_rfl)] at h1'
            rw [sl_put vs (by kernel_rfl) 7 79 (by kernel_rfl)] at S8
            clear hJ hA hD
            simp only [putAll, Act.put, List.setIfInBounds_toArray, List.set_cons_zero, List.set_cons_succ]
            rw [h1']
            generalize vs 7 = V7 at S8 ⊢
            clear h1'
            replace S8 := Lib.hid S8
            obtain ⟨zc1, zc2⟩ := Z0.out.cut ix
            replace zc2 := Lib.hid zc2
            clear S7
            go_wp2_with fail
            go_ret
            exact ⟨_, _, rfl, by omega, zc2.out, S8.out⟩
        · have hlt3 : ix + 1 < cap := by omega
          go_wp2_with fail
          refine wp_drawn_put3 (shp [some (.slice (some ⟨g, 0, none⟩) (n) (cap)), some (.int .i64 (ix : Int)), some (.slice (some ⟨g, 0, none⟩) ix (cap)), some (.slice (some ⟨g, 0, none⟩) (n) (cap)), some (.int .i64 (ix : Int)), some (.int .i64 ((ix : Int) + 1)), some (.slice (some ⟨g, ix + 1, none⟩) (n - (ix + 1)) (cap - (ix + 1))), none, none]) (fun D S w' => JC w (.slice (some ⟨g, 0, none⟩) (n) (cap)) ls (ls.take ix ++ ls.drop (ix + 1)) (D 7) (D 8) (S 79) (S 4) w') (by kernel_rfl) (by kernel_rfl) (JC.start S7.drew) ?_ ?_
          · refine step_plain3 rfl (fun D a w hD hB hL hJ hd hs K hK => ?_) ?_
            · have e4 : a.tmps[4]?.getD undef = .slice (some ⟨g, 0, none⟩) (n) (cap) := hs.yet 8 4 (by kernel_rfl) (by kernel_rfl)
              clear hB hL hD hd hs
              have HJ := Lib.hid hJ
              clear hJ
              go_simp
              exact hK.out _ _ rfl HJ.out (fun _ _ h => h)
            refine step_plain3 rfl (fun D a w hD hB hL hJ hd hs K hK => ?_) ?_
            · have e5 : a.tmps[5]?.getD undef = .int .i64 (ix : Int) := hs.at 5 (by kernel_rfl)
              clear hB hL hD hd hs
              have HJ := Lib.hid hJ
              clear hJ
              go_simp
              exact hK.out _ _ rfl HJ.out (fun _ _ h => h)
            refine step_plain3 rfl (fun D a w hD hB hL hJ hd hs K hK => ?_) ?_
            · have e72 : a.tmps[72]?.getD undef = .slice (some ⟨g, 0, none⟩) (n) (cap) := hs.get 0 72 (by kernel_rfl) (by kernel_rfl)
              have e73 : a.tmps[73]?.getD undef = .int .i64 (ix : Int) := hs.get 1 73 (by kernel_rfl) (by kernel_rfl)
              clear hB hL hD hd hs
              have HJ := Lib.hid hJ
              clear hJ
              go_simp
              exact hK.out _ _ rfl HJ.out (fun _ _ h => h)
            refine step_plain3 rfl (fun D a w hD hB hL hJ hd hs K hK => ?_) ?_
            · have e4 : a.tmps[4]?.getD undef = .slice (some ⟨g, 0, none⟩) (n) (cap) := hs.yet 8 4 (by kernel_rfl) (by kernel_rfl)
              clear hB hL hD hd hs
              have HJ := Lib.hid hJ
              clear hJ
              go_simp
              exact hK.out _ _ rfl HJ.out (fun _ _ h => h)
            refine step_plain3 rfl (fun D a w hD hB hL hJ hd hs K hK => ?_) ?_
            · have e5 : a.tmps[5]?.getD undef = .int .i64 (ix : Int) := hs.at 5 (by kernel_rfl)
              clear hB hL hD hd hs
              have HJ := Lib.hid hJ
              clear hJ
              go_simp
              exact hK.out _ _ rfl HJ.out (fun _ _ h => h)
            refine step_plain3 rfl (fun D a w hD hB hL hJ hd hs K hK => ?_) ?_
            · have e76 : a.tmps[76]?.getD undef = .int .i64 (ix : Int) := hs.get 4 76 (by kernel_rfl) (by kernel_rfl)
              clear hB hL hD hd hs
              have HJ := Lib.hid hJ
              clear hJ
              go_simp
              exact hK.out _ _ rfl HJ.out (fun _ _ h => h)
            refine step_plain3 rfl (fun D a w hD hB hL hJ hd hs K hK => ?_) ?_
            · have e75 : a.tmps[75]?.getD undef = .slice (some ⟨g, 0, none⟩) (n) (cap) := hs.get 3 75 (by kernel_rfl) (by kernel_rfl)
              have e77 : a.tmps[77]?.getD undef = .int .i64 ((ix : Int) + 1) := hs.get 5 77 (by kernel_rfl) (by kernel_rfl)
              clear hB hL hD hd hs
              have HJ := Lib.hid hJ
              clear hJ
              go_simp
              exact hK.out _ _ rfl HJ.out (fun _ _ h => h)
            refine step_plain3 rfl (fun D a w hD hB hL hJ hd hs K hK => ?_) ?_
            · have e74 : a.tmps[74]?.getD undef = .slice (some ⟨g, 0, none⟩) ix (cap) := hs.get 2 74 (by kernel_rfl) (by kernel_rfl)
              have e78 : a.tmps[78]?.getD undef = .slice (some ⟨g, ix + 1, none⟩) (n - (ix + 1)) (cap - (ix + 1)) := hs.get 6 78 (by kernel_rfl) (by kernel_rfl)
              have h8 := hL 8 (by kernel_rfl)
              have SS := (JC.row hJ hD).ownTake ix (by rw [← HN.out]; omega)
              have RR : Rds LS w (.slice (some ⟨g, ix + 1, none⟩) (n - (ix + 1)) (cap - (ix + 1))) (ls.drop (ix + 1)) := by
                have R0 := St.own (JC.row hJ hD)
                have R1 := R0.drop (ix + 1) (by omega)
                rw [show (0 + (ix + 1) * LS.s) = ix + 1 by show 0 + (ix + 1) * 1 = _; omega] at R1
                exact R1
              clear hJ hB hL hD hd hs
              refine wp_appR LS_info (.tmp 74) (.tmp 78) rfl SS (by simp [Act.eval, e74]) (ls.drop (ix + 1)) _ (by simp [Act.eval, e78]) RR (by rw [List.length_take, List.length_drop, ← HN.out]; omega) ?_
              intro v' w' S'
              exact hK.out _ _ trivial (JC.app S' h8) (fun _ _ h => h)
            refine step_plain3 rfl (fun D a w hD hB hL hJ hd hs K hK => ?_) ?_
            · obtain ⟨x79, e79⟩ : ∃ x : Value, a.tmps[79]?.getD undef = x := ⟨_, rfl⟩
              have HJ := Lib.hid (JC.asg hJ)
              clear hJ hB hL hD hd hs
              go_simp
              subst e79
              exact hK.out _ _ trivial HJ.out (fun _ _ h => h)
            exact step_nil3
          · intro vs D w' hD hJ hA
            obtain ⟨h1', S8⟩ := JC.fin hJ (hD 7 (by decide)) (hD 8 (by decide))
            rw [sl_put vs (by kernel_rfl) 8 4 (by kernel_rfl), sl_put vs (by kernel_rfl) 7 79 (by kernel_rfl)] at h1'
            rw [sl_put vs (by kernel_rfl) 7 79 (by kernel_rfl)] at S8
            clear hJ hA hD
            simp only [putAll, Act.put, List.setIfInBounds_toArray, List.set_cons_zero, List.set_cons_succ]
            rw [h1']
            generalize vs 7 = V7 at S8 ⊢
            clear h1'
            replace S8 := Lib.hid S8
            obtain ⟨zc1, zc2⟩ := Z0.out.cut ix
            replace zc2 := Lib.hid zc2
            clear S7
            go_wp2_with fail
            go_ret
            exact ⟨_, _, rfl, by omega, zc2.out, S8.out⟩
      · have S7 := Lib.hid (St.tail S6)
        clear S6
        go_wp2_with fail
        go_ret
        exact Z0.out.fin hfl S7.out
    · have S5 := Lib.hid (St.tail S4)
      have hp2 : (p == 0) = false := by simpa using hp
      clear S4
      go_wp2_with fail
      go_ret
      exact Z0.out.fin hfl S5.out
end Go.Proofs.YtbhelobahfgaeaaDoor
