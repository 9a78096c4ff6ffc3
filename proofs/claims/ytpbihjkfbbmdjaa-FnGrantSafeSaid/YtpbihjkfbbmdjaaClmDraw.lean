/-
  The draws of claims, of rows, and of a request.
-/
import Derived.Test.YtpbihjkfbbmdjaaClaimS
import Derived.Test.YtpbihjkfbbmdjaaOpen
import Derived.Test.YtpbihjkfbbmdjaaLoc
import Derived.Test.YtpbihjkfbbmdjaaDrawn3
import Derived.Test.YtpbihjkfbbmdjaaBlk
import Derived.Test.YtpbihjkfbbmdjaaGrant
namespace Go.Proofs.Ytpbihjkfbbmdjaa
open Go Go.RowKit
set_option linter.unusedVariables false
def RowQ (w0 : World) (B m : Nat) (Ls : List Asr) (n : Nat) (e : Ending) (w' : World) : Prop :=
  ∃ (v : Value) (ys : List Int), e = .returned v ∧ ys.length = n ∧ St w0 w' (Own LI v ys :: Rdr w0 B (m + n) :: Ls)
set_option maxHeartbeats 1000000 in
theorem row_s (w0 : World) (B m : Nat) (Ls : List Asr) (n : Nat) (q : Int) (w : World) (S : St w0 w (Rdr w0 B m :: Ls)) (hm : m ≤ 900000) (hn : n ≤ 100) (hq : 0 ≤ q ∧ q ≤ 1000) :
    Calls Try.prog 43 #[.pointer (some ⟨B, 0, none⟩), .int .i64 n, .int .i64 q] w (RowQ w0 B m Ls n) := by
  obtain ⟨q0, q1⟩ := hq
  have S1 : St w0 (w.alloc (.cells #[] 3)) (Own LI (.slice (some ⟨w.heap.size, 0, none⟩) 0 0) [] :: Rdr w0 B (m + 0) :: Ls) := S.ownEmpty LI
  clear S
  go_enter Try.func43, Try.ntmps43
  go_wp2_with fail
  go_loopw [7, 8] (fun o i wr => ∃ (k : Nat) (ys : List Int), k ≤ n ∧ i = .int .i64 k ∧ RowKit.Hid (ys.length = k) ∧ St w0 wr (Own LI o ys :: Rdr w0 B (m + k) :: Ls)) (fun _ i _ => n - (intOf i).toNat)
  case atStart => exact ⟨0, [], by omega, rfl, (show _ = _ from rfl), S1⟩
  case round =>
    obtain ⟨k, ys, hk, rfl, HY, S⟩ := hrel
    clear S1
    by_cases hlt : k < n
    · have hki : (k : Int) < (n : Int) := by omega
      have S2 := S.swap
      clear S
      go_wp2_with fail
      refine (pick_s w0 B _ _ (q + 1) _ S2 (by omega)).mono ?_
      rintro e w1 ⟨p, rfl, -, S3⟩
      have S4 := S3.swap
      have hyl : ys.length ≤ 1000000000 := by rw [HY.out]; omega
      clear S2 S3
      go_wp2_with (at_builtin; refine wpList_app1 LI_info rfl _ _ rfl S4 p #[.int .i64 p] rfl rfl rfl hyl ?_; intro v' w5 S5; clear S4)
      have HY2 : RowKit.Hid ((ys ++ [p]).length = k + 1) := by show _ = _; simp [HY.out]
      go_roundw
      case rel => exact ⟨k + 1, ys ++ [p], by omega, by go_num, HY2, S5⟩
      case measure => simp [intOf]; omega
    · obtain rfl : k = n := by omega
      go_wp2
      go_ret
      exact ⟨_, ys, rfl, HY.out, S⟩
/-! ### The claims -/
def ClmsQ (w0 : World) (B m : Nat) (Ls : List Asr) (e : Ending) (w' : World) : Prop :=
  ∃ (v : Value) (ys : List Clm) (u : Value) (fr : List Int) (m' : Nat), e = .returned (.tuple #[v, u]) ∧ ys.length ≤ 4 ∧ fr.length ≤ 5 ∧ m' ≤ m + 100 ∧ St w0 w' (Rdr w0 B m' :: DOwn LClm DClm v ys :: Own LI u fr :: Ls)
/-- append(out, c). -/
theorem wpList_dclm1 {t : TypeId} {x0 : Sl × Sl} {w0 w : World} {v : Value} {ys : List Clm} {Ls : List Asr} (D : Nonempty (ElemInfo Try.prog LClm t x0)) {ops : Array Oper} {rest : List Oper} {o : Oper} {a : Act} {Q : Exit → Act → World → Prop}
    (hgd : o.guard = none) (s x : Operand) (ho : o.op = .call { callee := .builtin .append, args := #[s, x], argTypes := #[t, t] })
    {ua : Option Addr} {un uc : Nat} {y : List Int} {va : Option Addr} {vn vc : Nat} {z : List Int} (S : St w0 w (DOwn LClm DClm v ys :: Own LI (.slice ua un uc) y :: Own LI (.slice va vn vc) z :: Ls)) (hs : a.eval s = v) (hx : a.eval x = .slice (some ⟨w.heap.size, 0, none⟩) 1 1) (hn : ys.length ≤ 1000000000)
    (h : ∀ v' w', St w0 w' (DOwn LClm DClm v' (ys ++ [⟨y, z⟩]) :: Ls) → wpList Try.prog ops Q rest (a.put o.dst v') w') : wpList Try.prog ops Q (o :: rest) a (w.alloc (.cells #[.slice ua un uc, .slice va vn vc] 43)) := by
  obtain ⟨xs, hl, S1⟩ := S.unpack
  refine wpList_app1 D hgd s x ho S1 ((ua, un, uc), (va, vn, vc)) #[.slice ua un uc, .slice va vn vc] rfl hs hx (by omega) (fun v' w' S2 => h v' w' (St.dsnoc (x := ((ua, un, uc), (va, vn, vc))) (y := ⟨y, z⟩) hl ?_))
  exact S2
/-- What stands in the region that writes a wrong number: d4: the literal stands; d6: the pick is done; d7: its place is known; d8: it is read; d10: it is written. -/
def wlit (d4 : Bool) (s50 : Value) : List Asr := if d4 then [Own LI s50 [-1, 101]] else []
def J12 (w0 : World) (B m : Nat) (V : Value) (y : List Int) (T : List Asr) (d4 d6 d7 d8 d10 : Bool) (s50 s52 s53 s54 : Value) (w : World) : Prop :=
  (d10 = false → St w0 w (Rdr w0 B (if d6 then m + 1 else m) :: (wlit d4 s50 ++ (Own LI V y :: T)))) ∧
  (d6 = true → ∃ r : Nat, s52 = .int .i64 (r : Int) ∧ r < 2) ∧
  (d7 = true → d4 = true ∧ ∃ (h c r : Nat), s50 = .slice (some ⟨h, 0, none⟩) 2 c ∧ s53 = .pointer (some ⟨h, r, none⟩) ∧ r < 2) ∧
  (d8 = true → ∃ x : Int, s54 = .int .i64 x) ∧
  (d10 = true → ∃ (x : Int) (m2 : Nat), m2 ≤ m + 1 ∧ St w0 w (Rdr w0 B m2 :: Own LI V (y.set 0 x) :: T))
section
variable {w0 w w' : World} {B m : Nat} {V : Value} {y : List Int} {T : List Asr} {d4 d6 d7 d8 d10 : Bool} {s50 s52 s53 s54 : Value}
theorem J12.start (h : St w0 w (Rdr w0 B m :: Own LI V y :: T)) : J12 w0 B m V y T false false false false false s50 s52 s53 s54 w := ⟨fun _ => h, nofun, nofun, nofun, nofun⟩
theorem J12.tl (h : J12 w0 B m V y T d4 d6 d7 d8 d10 s50 s52 s53 s54 w) (h10 : d10 = false) : St w0 w (Own LI V y :: T) := St.drop2 (Ms := wlit d4 s50) (St.tail (h.1 h10))
theorem J12.lit (h : J12 w0 B m V y T d4 d6 d7 d8 d10 s50 s52 s53 s54 w) (h4 : d4 = false) (h10 : d10 = false) (h7 : d7 = false) :
    J12 w0 B m V y T true d6 d7 d8 d10 (.slice (some ⟨w.heap.size, 0, none⟩) 2 2) s52 s53 s54 (w.alloc (.cells #[.int .i64 (-1), .int .i64 101] 3)) := by
  subst h4
  subst h10
  subst h7
  have S := h.1 rfl
  exact ⟨fun _ => (St.ownLit LI S [-1, 101] #[.int .i64 (-1), .int .i64 101] rfl (show 2 ≤ maxLen by decide)).swap, h.2.1, nofun, h.2.2.2.1, nofun⟩
theorem J12.rdr (h : J12 w0 B m V y T d4 d6 d7 d8 d10 s50 s52 s53 s54 w) (h6 : d6 = false) (h10 : d10 = false) : St w0 w (Rdr w0 B m :: (wlit d4 s50 ++ (Own LI V y :: T))) := by
  subst h6
  exact h.1 h10
theorem J12.pick (h : J12 w0 B m V y T d4 d6 d7 d8 d10 s50 s52 s53 s54 w) (h6 : d6 = false) (h10 : d10 = false) (h7 : d7 = false) (h8 : d8 = false) :
    ∀ (r : Int) (w' : World), 0 ≤ r → r < 2 → St w0 w' (Rdr w0 B (m + 1) :: (wlit d4 s50 ++ (Own LI V y :: T))) → J12 w0 B m V y T d4 true d7 d8 d10 s50 (.int .i64 r) s53 s54 w' := by
  intro r w' r0 r1 S
  subst h10
  subst h7
  subst h8
  exact ⟨fun _ => S, fun _ => ⟨r.toNat, by rw [Int.toNat_of_nonneg r0], by omega⟩, nofun, nofun, nofun⟩
theorem J12.ix (h : J12 w0 B m V y T d4 d6 d7 d8 d10 s50 s52 s53 s54 w) (h4 : d4 = true) (h6 : d6 = true) (h10 : d10 = false) : ∃ (hh hc ri : Nat), s50 = .slice (some ⟨hh, 0, none⟩) 2 hc ∧ s52 = .int .i64 (ri : Int) ∧ ri < 2 := by
  subst h4
  obtain ⟨r, e, hr⟩ := h.2.1 h6
  obtain ⟨g, c, e2, -, -⟩ := St.ownBlk (St.tail (h.1 h10)) (by simp)
  exact ⟨g, c, r, e2, e, hr⟩
theorem J12.setIx {hh hc ri : Nat} (h : J12 w0 B m V y T d4 d6 d7 d8 d10 s50 s52 s53 s54 w) (h4 : d4 = true) (h10 : d10 = false) (e : s50 = .slice (some ⟨hh, 0, none⟩) 2 hc) (hr : ri < 2) :
    J12 w0 B m V y T d4 d6 true d8 d10 s50 s52 (.pointer (some ⟨hh, ri, none⟩)) s54 w := by
  subst h10
  exact ⟨h.1, h.2.1, fun _ => ⟨h4, hh, hc, ri, e, rfl, hr⟩, h.2.2.2.1, nofun⟩
theorem J12.ld (h : J12 w0 B m V y T d4 d6 d7 d8 d10 s50 s52 s53 s54 w) (h7 : d7 = true) (h10 : d10 = false) : ∃ (pp : Addr) (x : Int), s53 = .pointer (some pp) ∧ w.cell? pp = some (.int .i64 x) := by
  obtain ⟨h4, hh, c, r, e, e2, hr⟩ := h.2.2.1 h7
  subst h4
  have S := St.tail (h.1 h10)
  subst e
  obtain ⟨x, hx⟩ : ∃ x, ([-1, 101] : List Int)[r]? = some x := ⟨_, List.getElem?_eq_getElem (by simpa using hr)⟩
  exact ⟨_, x, e2, (LI_cell S (g := hh) rfl r x hx).1⟩
theorem J12.setLd {x : Int} (h : J12 w0 B m V y T d4 d6 d7 d8 d10 s50 s52 s53 s54 w) (h10 : d10 = false) : J12 w0 B m V y T d4 d6 d7 true d10 s50 s52 s53 (.int .i64 x) w := by
  subst h10
  exact ⟨h.1, h.2.1, h.2.2.1, fun _ => ⟨x, rfl⟩, nofun⟩
theorem J12.val (h : J12 w0 B m V y T d4 d6 d7 d8 d10 s50 s52 s53 s54 w) (h8 : d8 = true) : ∃ x : Int, s54 = .int .i64 x := h.2.2.2.1 h8
theorem J12.store {x : Int} {g : Nat} (h : J12 w0 B m V y T d4 d6 d7 d8 d10 s50 s52 s53 s54 w) (h10 : d10 = false) (hv : V.ownBlock = some g) (hk : 0 < y.length) :
    J12 w0 B m V y T d4 d6 d7 d8 true s50 s52 s53 s54 (w.setCell ⟨g, 0, none⟩ (.int .i64 x)) := by
  have S := h.1 h10
  have S2 := St.moveOut (Ms := Rdr w0 B (if d6 then m + 1 else m) :: wlit d4 s50) S
  have S3 := LI_set S2 hv 0 x hk
  refine ⟨nofun, h.2.1, h.2.2.1, h.2.2.2.1, fun _ => ⟨x, if d6 then m + 1 else m, by split <;> omega, ?_⟩⟩
  cases d4
  · exact St.swap S3
  · have S4 : St w0 (w.setCell ⟨g, 0, none⟩ (.int .i64 x)) (Own LI V (y.set 0 x) :: Rdr w0 B (if d6 then m + 1 else m) :: Own LI s50 [-1, 101] :: T) := S3
    exact (St.tail (St.rot S4)).swap
theorem J12.fin (h : J12 w0 B m V y T d4 d6 d7 d8 d10 s50 s52 s53 s54 w) (h10 : d10 = true) : ∃ (x : Int) (m2 : Nat), m2 ≤ m + 1 ∧ St w0 w (Rdr w0 B m2 :: Own LI V (y.set 0 x) :: T) := h.2.2.2.2 h10
end
set_option maxRecDepth 100000 in
set_option maxHeartbeats 2000000 in
theorem claims_s (w0 : World) (B m : Nat) (Ls : List Asr) (n : Int) (w : World) (S : St w0 w (Rdr w0 B m :: Ls)) (hm : m ≤ 800000) (hn : n ≤ 1000000) :
    Calls Try.prog 41 #[.pointer (some ⟨B, 0, none⟩), .int .i64 n] w (ClmsQ w0 B m Ls) := by
  go_enter Try.func41, Try.ntmps41
  go_wp2_with fail
  refine (pick_s w0 B _ _ 3 _ S (by omega)).mono ?_
  rintro e w1 ⟨p, rfl, ⟨p0, p1, -⟩, S2⟩
  replace p1 := p1 (by omega)
  obtain ⟨P, rfl⟩ : ∃ P : Nat, p = (P : Int) := ⟨p.toNat, by omega⟩
  have hP : P < 3 := by omega
  have S3 := (S2.downEmpty (L := LClm) (D := DClm)).swap
  clear S S2 p0 p1
  have ROW : RowKit.Hid (∀ (m2 : Nat) (Ms : List Asr) (q : Int) (W : World), St w0 W (Rdr w0 B m2 :: Ms) → m2 ≤ 900000 → 0 ≤ q ∧ q ≤ 1000 → Calls Try.prog 43 #[.pointer (some ⟨B, 0, none⟩), .int .i64 (1 + (P : Int)), .int .i64 q] W (RowQ w0 B m2 Ms (1 + P))) := by
    intro m2 Ms q W SS h1 h2
    have R := row_s w0 B m2 Ms (1 + P) q W SS h1 (by omega) h2
    rwa [show (((1 + P : Nat)) : Int) = 1 + (P : Int) by omega] at R
  go_wp2_with fail
  refine (pick_s w0 B _ _ 5 _ S3 (by omega)).mono ?_
  rintro e w2 ⟨q, rfl, ⟨q0, q1, -⟩, S4⟩
  replace q1 := q1 (by omega)
  obtain ⟨K0, rfl⟩ : ∃ K0 : Nat, q = (K0 : Int) := ⟨q.toNat, by omega⟩
  have hK2 : K0 ≤ 4 := by omega
  have S5 := S4.swap
  clear S3 S4 q0 q1
  go_wp2_with fail
  go_loopw [7, 8] (fun o i wr => ∃ (k m' : Nat) (ys : List Clm), k ≤ K0 ∧ i = .int .i64 (k : Int) ∧ RowKit.Hid (ys.length + k = K0) ∧ RowKit.Hid (∀ y ∈ ys, 0 < y.Holds.length ∧ y.Needs.length ≤ 10) ∧ m' + 10 * k ≤ m + 2 + 10 * K0 ∧ St w0 wr (DOwn LClm DClm o ys :: Rdr w0 B m' :: Ls)) (fun _ i _ => (intOf i).toNat)
  case atStart => exact ⟨K0, m + 1 + 1, [], by omega, rfl, (show _ = _ by simp), (by intro y hy; cases hy), by omega, S5⟩
  case round =>
    obtain ⟨k, m', ys, hk, rfl, HX, HA, hm', S6⟩ := hrel
    clear S5
    by_cases hlt : 0 < k
    · have hlt' : (0 : Int) < k := by omega
      have hyl : ys.length ≤ 1000000000 := by have := HX.out; omega
      have S7 := S6.swap
      clear S6
      go_wp2_with fail
      refine (ROW.out _ _ 3 _ S7 (by omega) (by omega)).mono ?_
      rintro e w3 ⟨r1, y, rfl, hy, S8⟩
      have S9 := S8.swap
      clear S7 S8
      go_wp2_with fail
      refine (ROW.out _ _ 5 _ S9 (by omega) (by omega)).mono ?_
      rintro e w4 ⟨r2, z, rfl, hz, S10⟩
      clear S9
      obtain ⟨a2, n2, c2, rfl, -⟩ := (St.own S10).slice
      obtain ⟨a1, n1, c1, rfl, -⟩ := (St.own S10.tail.tail).slice
      have S11 : St w0 w4 (DOwn LClm DClm u7 ys :: Own LI (.slice a1 n1 c1) y :: Own LI (.slice a2 n2 c2) z :: Rdr w0 B (m' + (1 + P) + (1 + P)) :: Ls) := S10.perm (((List.Perm.cons _ (List.Perm.swap _ _ _)).trans (List.Perm.swap _ _ _)) |>.trans (List.Perm.cons _ (List.Perm.cons _ (List.Perm.swap _ _ _)) |>.trans (List.Perm.cons _ (List.Perm.swap _ _ _)) |>.trans (List.Perm.swap _ _ _)) |>.trans (List.Perm.refl _))
      clear S10
      have HX2 : RowKit.Hid ((ys ++ [(⟨y, z⟩ : Clm)]).length + (k - 1) = K0) := by show _ = _; have := HX.out; simp; omega
      have HA2 : RowKit.Hid (∀ x ∈ ys ++ [(⟨y, z⟩ : Clm)], 0 < x.Holds.length ∧ x.Needs.length ≤ 10) := by
        intro x hx
        rcases List.mem_append.1 hx with hx | hx
        · exact HA.out x hx
        · rw [List.mem_singleton] at hx
          subst hx
          show 0 < y.length ∧ z.length ≤ 10
          omega
      go_wp2_with (at_builtin; refine wpList_dclm1 LClm_info rfl _ _ rfl S11 rfl rfl hyl ?_; intro v' w5 S12; clear S11)
      go_roundw
      case rel => exact ⟨k - 1, m' + (1 + P) + (1 + P), _, by omega, by rw [show (((k - 1 : Nat)) : Int) = (k : Int) - 1 by omega], HX2, HA2, by omega, S12⟩
      case measure => simp [intOf]; omega
    obtain rfl : k = 0 := by omega
    have HYL : RowKit.Hid (ys.length ≤ 4) := by show _ ≤ _; have := HX.out; omega
    obtain ⟨oa, on, oc, rfl, -, -, HON, -⟩ := (St.drds S6).get
    have hon : on ≤ 4 := by have := HON.out; have := HYL.out; omega
    have S7 := S6.swap
    clear S6
    go_wp2_with fail
    refine (ROW.out _ _ 4 _ S7 (by omega) (by omega)).mono ?_
    rintro e w3 ⟨r3, fr, rfl, hfr, S8⟩
    have hfr5 : fr.length ≤ 5 := by omega
    clear S7 ROW
    have S9 : St w0 w3 (Rdr w0 B (m' + (1 + P)) :: DOwn LClm DClm (.slice oa on oc) ys :: Own LI r3 fr :: Ls) := (S8.rot.rot).perm (List.Perm.refl _)
    clear S8
    by_cases hz : on = 0
    · subst hz
      go_wp2_with fail
      exact bodyPost_ret (v := .tuple #[.slice oa 0 oc, r3]) (by simp [results, Try.results41, go_sem]) rfl ⟨_, ys, _, fr, _, rfl, HYL.out, hfr5, by omega, S9⟩
    have hon1 : 0 < on := by omega
    have hon2 : (0 : Int) < on := by omega
    go_wp2_with fail
    refine (odd_s w0 B _ _ n _ S9 (by omega) hn).mono ?_
    rintro e w4 ⟨od, rfl, S10⟩
    clear S9
    cases od with
    | false =>
      go_wp2_with fail
      exact bodyPost_ret (v := .tuple #[.slice oa on oc, r3]) (by simp [results, Try.results41, go_sem]) rfl ⟨_, ys, _, fr, _, rfl, HYL.out, hfr5, by omega, S10⟩
    | true =>
      go_wp2_with fail
      refine (pick_s w0 B _ _ 3 _ S10 (by omega)).mono ?_
      rintro e w5 ⟨c, rfl, ⟨c0, c1, -⟩, S11⟩
      replace c1 := c1 (by omega)
      clear S10
      obtain ⟨y, z, hy⟩ : ∃ y z, ys[0]? = some ⟨y, z⟩ := ⟨_, _, List.getElem?_eq_getElem (by rw [← HON.out]; exact hon1)⟩
      obtain ⟨hy1, hz10⟩ := HA.out _ (List.mem_of_getElem? hy)
      dsimp only at hy1 hz10
      obtain ⟨g, cp, hgv, -, -⟩ := St.dBlk S11.tail (by rw [← HON.out]; exact hon1)
      simp only [Value.slice.injEq] at hgv
      obtain ⟨rfl, -, -⟩ := hgv
      by_cases hc2 : c = 2
      · subst hc2
        have S12 := St.perm (S11.ownLit LI [0, 0, 0, 0, 0] #[.int .i64 0, .int .i64 0, .int .i64 0, .int .i64 0, .int .i64 0] rfl (show 5 ≤ maxLen by decide)) (Ms := [Rdr w0 B (m' + (1 + P) + 1 + 1), DOwn LClm DClm (.slice (some ⟨g, 0, none⟩) on oc) ys, Own LI (.slice (some ⟨w5.heap.size, 0, none⟩) 5 5) [0, 0, 0, 0, 0], Own LI r3 fr] ++ Ls) (((List.Perm.swap _ _ _).trans (List.Perm.cons _ (List.Perm.swap _ _ _))))
        have S13 := S12.perm (List.Perm.cons _ (List.Perm.cons _ (List.Perm.swap _ _ _)) |>.trans (List.Perm.cons _ (List.Perm.swap _ _ _)) |>.trans (List.Perm.swap _ _ _))
        have S14 := Lib.hid (St.tail S13)
        clear S11 S12 S13 hy
        go_wp2_with fail
        exact bodyPost_ret (v := .tuple #[.slice (some ⟨g, 0, none⟩) on oc, .slice (some ⟨w5.heap.size, 0, none⟩) 5 5]) (by simp [results, Try.results41, go_sem]) rfl ⟨_, ys, _, [0, 0, 0, 0, 0], _, rfl, HYL.out, (by decide), by omega, S14.out⟩
      have S12 := S11.swap
      obtain ⟨xs, ⟨⟨ra, rn, rc⟩, sa, sn, sc⟩, R, hx, hl, S13, hre⟩ := S12.focus 0 _ hy
      have FINI : RowKit.Hid (∀ (w' : World) (Y Z : List Int) (x' : Sl × Sl) (Ms : List Asr), St w0 w' (DClm.own x' ⟨Y, Z⟩ ++ (Own LClm (.slice (some ⟨g, 0, none⟩) on oc) (xs.set 0 x') :: (R ++ Ms))) → St w0 w' (DOwn LClm DClm (.slice (some ⟨g, 0, none⟩) on oc) (ys.set 0 ⟨Y, Z⟩) :: Ms)) := fun w' Y Z x' Ms Q => hre w' _ x' ⟨Y, Z⟩ Ms rfl Q
      have SF : St w0 w5 (Own LI (.slice ra rn rc) y :: Own LI (.slice sa sn sc) z :: Own LClm (.slice (some ⟨g, 0, none⟩) on oc) xs :: (R ++ (Rdr w0 B (m' + (1 + P) + 1 + 1) :: (Own LI r3 fr :: Ls)))) := S13
      clear S11 S12 S13 hre
      have hset : ∀ Y Z, (ys.set 0 (⟨Y, Z⟩ : Clm)).length ≤ 4 := fun Y Z => by rw [List.length_set]; exact HYL.out
      by_cases hc0 : c = 0
      · subst hc0
        obtain ⟨gr, rfl⟩ := ownAd SF (by have := (St.own SF).parts.1; omega)
        have hrn1 : 0 < rn := by have := (St.own SF).parts.1; omega
        obtain ⟨y0, hy0⟩ : ∃ y0, y[0]? = some y0 := ⟨_, List.getElem?_eq_getElem hy1⟩
        have SR : St w0 w5 (Rdr w0 B (m' + (1 + P) + 1 + 1) :: Own LI (.slice (some ⟨gr, 0, none⟩) rn rc) y :: Own LI (.slice sa sn sc) z :: Own LClm (.slice (some ⟨g, 0, none⟩) on oc) xs :: (R ++ (Own LI r3 fr :: Ls))) :=
          by simpa using (St.moveOut (Ms := Own LI (.slice (some ⟨gr, 0, none⟩) rn rc) y :: Own LI (.slice sa sn sc) z :: Own LClm (.slice (some ⟨g, 0, none⟩) on oc) xs :: R) (by simpa using SF))
        obtain ⟨M1, hM1⟩ : ∃ M1, M1 = m' + (1 + P) + 1 + 1 := ⟨_, rfl⟩
        rw [← hM1] at SR
        have hrn2 : (0 : Int) < (rn : Int) := by omega
        clear SF hy hc2
        go_wp2_with fail
        refine wp_drawn_put3 (shp [some (.slice (some ⟨g, 0, none⟩) on oc), some (.pointer (some ⟨g, 0, none⟩)), some (.pointer (some ⟨g, 0, none⟩)), some (.slice (some ⟨gr, 0, none⟩) rn rc), none, some (.pointer (some ⟨B, 0, none⟩)), none, none, none, some (.pointer (some ⟨gr, 0, none⟩)), none]) (fun D S w' => J12 w0 B M1 (.slice (some ⟨gr, 0, none⟩) rn rc) y (Own LI (.slice sa sn sc) z :: Own LClm (.slice (some ⟨g, 0, none⟩) on oc) xs :: (R ++ (Own LI r3 fr :: Ls))) (D 4) (D 6) (D 7) (D 8) (D 10) (S 50) (S 52) (S 53) (S 54) w') (by kernel_rfl) (by kernel_rfl) (J12.start SR.drew) ?_ ?_
        · refine step_plain3 rfl (fun D a w hD hB hL hJ hd hs K hK => ?_) ?_
          · have e7 : a.tmps[7]?.getD undef = .slice (some ⟨g, 0, none⟩) on oc := hs.at 7 (by kernel_rfl)
            clear hB hL hD hd hs
            have HJ := Lib.hid hJ
            clear hJ
            go_simp
            exact hK.out _ _ rfl HJ.out (fun _ _ h => h)
          refine step_plain3 rfl (fun D a w hD hB hL hJ hd hs K hK => ?_) ?_
          · have e46 : a.tmps[46]?.getD undef = .slice (some ⟨g, 0, none⟩) on oc := hs.get 0 46 (by kernel_rfl) (by kernel_rfl)
            clear hB hL hD hd hs
            have HJ := Lib.hid hJ
            clear hJ
            go_simp
            exact hK.out _ _ rfl HJ.out (fun _ _ h => h)
          refine step_plain3 rfl (fun D a w hD hB hL hJ hd hs K hK => ?_) ?_
          · have e47 : a.tmps[47]?.getD undef = .pointer (some ⟨g, 0, none⟩) := hs.get 1 47 (by kernel_rfl) (by kernel_rfl)
            clear hB hL hD hd hs
            have HJ := Lib.hid hJ
            clear hJ
            go_simp
            exact hK.out _ _ rfl HJ.out (fun _ _ h => h)
          refine step_plain3 rfl (fun D a w hD hB hL hJ hd hs K hK => ?_) ?_
          · have e48 : a.tmps[48]?.getD undef = .pointer (some ⟨g, 0, none⟩) := hs.get 2 48 (by kernel_rfl) (by kernel_rfl)
            have z0 : w.cell? ⟨g, 0, none⟩ = some (.slice (some ⟨gr, 0, none⟩) rn rc) := St.ownCell (J12.tl hJ (hL 10 (by kernel_rfl))).tail.tail (g := g) rfl 0 _ hx 0 _ rfl
            have HJ := Lib.hid hJ
            clear hJ hB hL hD hd hs
            go_simp
            exact hK.out _ _ rfl HJ.out (fun _ _ h => h)
          refine step_plain3 rfl (fun D a w hD hB hL hJ hd hs K hK => ?_) ?_
          · have h10 := hL 10 (by kernel_rfl)
            have h7 := hL 7 (by kernel_rfl)
            have HJ := Lib.hid (J12.lit hJ hD h10 h7)
            clear hJ hs hd hB hL
            go_simp
            exact hK.out _ _ trivial HJ.out (fun _ _ h => h)
          refine step_plain3 rfl (fun D a w hD hB hL hJ hd hs K hK => ?_) ?_
          · have e0 : a.tmps[0]?.getD undef = .pointer (some ⟨B, 0, none⟩) := hs.at 0 (by kernel_rfl)
            clear hB hL hD hd hs
            have HJ := Lib.hid hJ
            clear hJ
            go_simp
            exact hK.out _ _ rfl HJ.out (fun _ _ h => h)
          refine step_plain3 rfl (fun D a w hD hB hL hJ hd hs K hK => ?_) ?_
          · have e51 : a.tmps[51]?.getD undef = .pointer (some ⟨B, 0, none⟩) := hs.get 5 51 (by kernel_rfl) (by kernel_rfl)
            have h10 := hL 10 (by kernel_rfl)
            have h7 := hL 7 (by kernel_rfl)
            have h8 := hL 8 (by kernel_rfl)
            have PK := Lib.hid (pick_s w0 B _ _ 2 _ (J12.rdr hJ hD h10) (by omega))
            have HJ := Lib.hid (J12.pick hJ hD h10 h7 h8)
            clear hJ hs hd hB hL
            go_simp
            refine PK.out.mono ?_
            rintro e w5 ⟨r, rfl, ⟨r0, r1, -⟩, S20⟩
            exact hK.out _ _ trivial (HJ.out r w5 r0 (r1 (by omega)) S20) (fun _ _ h => h)
          refine step_plain3 rfl (fun D a w hD hB hL hJ hd hs K hK => ?_) ?_
          · obtain ⟨x50, e50⟩ : ∃ x : Value, a.tmps[50]?.getD undef = x := ⟨_, rfl⟩
            obtain ⟨x52, e52⟩ : ∃ x : Value, a.tmps[52]?.getD undef = x := ⟨_, rfl⟩
            have h10 := hL 10 (by kernel_rfl)
            have h8 := hL 8 (by kernel_rfl)
            obtain ⟨hh, hc, ri, q50, q52, rlt⟩ := J12.ix hJ (hB 4 (by kernel_rfl)) (hB 6 (by kernel_rfl)) h10
            obtain rfl : x50 = .slice (some ⟨hh, 0, none⟩) 2 hc := e50.symm.trans q50
            obtain rfl : x52 = .int .i64 (ri : Int) := e52.symm.trans q52
            have HJ := Lib.hid (J12.setIx hJ (hB 4 (by kernel_rfl)) h10 q50 rlt)
            have rlti : (ri : Int) < 2 := by omega
            have r0i : (0 : Int) ≤ (ri : Int) := by omega
            clear hJ hs hd hB hL q50 q52
            go_simp
            exact hK.out _ _ trivial HJ.out (fun _ _ h => h)
          refine step_plain3 rfl (fun D a w hD hB hL hJ hd hs K hK => ?_) ?_
          · obtain ⟨x53, e53⟩ : ∃ x : Value, a.tmps[53]?.getD undef = x := ⟨_, rfl⟩
            have h10 := hL 10 (by kernel_rfl)
            obtain ⟨pp, xx, q53, z0⟩ := J12.ld hJ (hB 7 (by kernel_rfl)) h10
            obtain rfl : x53 = .pointer (some pp) := e53.symm.trans q53
            have HJ := Lib.hid (J12.setLd (x := xx) hJ h10)
            clear hJ hs hd hB hL q53
            go_simp
            exact hK.out _ _ trivial HJ.out (fun _ _ h => h)
          refine step_plain3 rfl (fun D a w hD hB hL hJ hd hs K hK => ?_) ?_
          · have e49 : a.tmps[49]?.getD undef = .slice (some ⟨gr, 0, none⟩) rn rc := hs.get 3 49 (by kernel_rfl) (by kernel_rfl)
            clear hB hL hD hd hs
            have HJ := Lib.hid hJ
            clear hJ
            go_simp
            exact hK.out _ _ rfl HJ.out (fun _ _ h => h)
          refine step_plain3 rfl (fun D a w hD hB hL hJ hd hs K hK => ?_) ?_
          · have e55 : a.tmps[55]?.getD undef = .pointer (some ⟨gr, 0, none⟩) := hs.get 9 55 (by kernel_rfl) (by kernel_rfl)
            obtain ⟨x54, e54⟩ : ∃ x : Value, a.tmps[54]?.getD undef = x := ⟨_, rfl⟩
            obtain ⟨xx, q54⟩ := J12.val hJ (hB 8 (by kernel_rfl))
            obtain rfl : x54 = .int .i64 xx := e54.symm.trans q54
            have S20 := J12.tl hJ hD
            obtain ⟨z0, z1⟩ := LI_cell S20 (g := gr) rfl 0 y0 hy0
            have HJ := Lib.hid (J12.store (x := xx) (g := gr) hJ hD rfl hy1)
            clear hJ hs hd hB hL S20 q54 hD
            go_simp
            exact hK.out (.bool false) _ trivial HJ.out (fun _ _ h => h)
          exact step_nil3
        · intro vs D w' hD hJ hA
          obtain ⟨x, m2, hm2, S20⟩ := J12.fin hJ (hD 10 (by decide))
          clear hJ hA hD
          have S21 := (FINI.out w' (y.set 0 x) z ((some ⟨gr, 0, none⟩, rn, rc), (sa, sn, sc)) (Rdr w0 B m2 :: Own LI r3 fr :: Ls) (by
            rw [set_same hx]
            show St w0 w' (Own LI (.slice (some ⟨gr, 0, none⟩) rn rc) (y.set 0 x) :: Own LI (.slice sa sn sc) z :: Own LClm (.slice (some ⟨g, 0, none⟩) on oc) xs :: (R ++ (Rdr w0 B m2 :: Own LI r3 fr :: Ls)))
            exact (by simpa using (St.moveIn (Ms := Own LI (.slice (some ⟨gr, 0, none⟩) rn rc) (y.set 0 x) :: Own LI (.slice sa sn sc) z :: Own LClm (.slice (some ⟨g, 0, none⟩) on oc) xs :: R) (by simpa using S20))))).swap
          have SH := Lib.hid S21
          clear S20 S21 SR FINI
          simp only [putAll, Act.put, List.setIfInBounds_toArray, List.set_cons_zero, List.set_cons_succ]
          go_wp2_with fail
          exact bodyPost_ret (v := .tuple #[.slice (some ⟨g, 0, none⟩) on oc, r3]) (by simp [results, Try.results41, go_sem]) rfl ⟨_, _, _, fr, _, rfl, hset _ _, hfr5, by omega, SH.out⟩
      · obtain rfl : c = 1 := by omega
        have SB := SF.swap
        have hzl : z.length ≤ 1000000000 := by omega
        obtain ⟨hkx, hxe⟩ := List.getElem?_eq_some_iff.1 hx
        have CELLS : RowKit.Hid (∀ W P Q Ms, St w0 W (P :: Q :: Own LClm (.slice (some ⟨g, 0, none⟩) on oc) xs :: Ms) → W.cell? ⟨g, 1, none⟩ = some (.slice sa sn sc) ∧ ∀ j, W.frozen? ⟨g, j, none⟩ = false) := fun W P Q Ms SS => ⟨St.ownCell SS.tail.tail (g := g) rfl 0 _ hx 1 _ rfl, fun j => St.ownFrozen SS.tail.tail (g := g) rfl j⟩
        have FIN2 : RowKit.Hid (∀ W a' n' c', St w0 W (Own LI (.slice a' n' c') (z ++ [0]) :: Own LI (.slice ra rn rc) y :: Own LClm (.slice (some ⟨g, 0, none⟩) on oc) xs :: (R ++ Rdr w0 B (m' + (1 + P) + 1 + 1) :: Own LI r3 fr :: Ls)) →
            St w0 (W.setCell ⟨g, 1, none⟩ (.slice a' n' c')) (Rdr w0 B (m' + (1 + P) + 1 + 1) :: DOwn LClm DClm (.slice (some ⟨g, 0, none⟩) on oc) (ys.set 0 ⟨y, z ++ [0]⟩) :: Own LI r3 fr :: Ls)) := by
          intro W a' n' c' SS
          have S23 := (SS.rot).setAt (g := g) rfl 0 1 ((ra, rn, rc), (a', n', c')) (.slice a' n' c') hkx (by decide) (by rw [hxe]; rfl)
          have S24 : St w0 (W.setCell ⟨g, 1, none⟩ (.slice a' n' c')) (Own LI (.slice ra rn rc) y :: Own LI (.slice a' n' c') (z ++ [0]) :: Own LClm (.slice (some ⟨g, 0, none⟩) on oc) (xs.set 0 ((ra, rn, rc), (a', n', c'))) :: (R ++ Rdr w0 B (m' + (1 + P) + 1 + 1) :: Own LI r3 fr :: Ls)) := S23.rot.perm (List.Perm.cons _ (List.Perm.swap _ _ _))
          exact (FINI.out _ y (z ++ [0]) ((ra, rn, rc), (a', n', c')) (Rdr w0 B (m' + (1 + P) + 1 + 1) :: Own LI r3 fr :: Ls) S24).swap
        obtain ⟨hc5, -⟩ := CELLS.out _ _ _ _ SB
        clear SF hy FINI hx hxe hkx hl
        go_wp2_with (at_builtin; refine wpList_app1 LI_info rfl _ _ rfl SB (0 : Int) #[.int .i64 0] rfl rfl rfl hzl ?_; intro v' w6 S20; obtain ⟨a', n', c', rfl, -⟩ := (St.own S20).slice; obtain ⟨hc6, hf6⟩ := CELLS.out _ _ _ _ S20; have S21 := Lib.hid (FIN2.out _ _ _ _ S20); clear S20 SB hc5)
        exact bodyPost_ret (v := .tuple #[.slice (some ⟨g, 0, none⟩) on oc, r3]) (by simp [results, Try.results41, go_sem]) rfl ⟨_, _, _, fr, _, rfl, hset _ _, hfr5, by omega, S21.out⟩
end Go.Proofs.Ytpbihjkfbbmdjaa
