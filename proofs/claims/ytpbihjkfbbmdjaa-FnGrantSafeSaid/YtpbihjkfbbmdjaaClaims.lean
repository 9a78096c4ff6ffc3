/-
  ClaimsValid: both programs ask the same of claims; slices.IndexFunc and slices.ContainsFunc with their predicates.
-/
import Derived.Shelf.Abstract
import Derived.Test.YtpbihjkfbbmdjaaClaimS
namespace Go.Proofs.Ytpbihjkfbbmdjaa
open Go Go.RowKit
/-- The first that has it, as the library numbers it. -/
def firstI {α : Type} (p : α → Bool) (xs : List α) : Int := match xs.findIdx? p with | some k => (k : Int) | none => -1
theorem firstI_hit {α : Type} {p : α → Bool} {xs : List α} {k : Nat} {x : α} (hx : xs[k]? = some x) (hp : p x = true) (hb : ∀ (j : Nat) y, j < k → xs[j]? = some y → p y = false) : firstI p xs = (k : Int) := by
  obtain ⟨hk, rfl⟩ := List.getElem?_eq_some_iff.1 hx
  have : xs.findIdx? p = some k := List.findIdx?_eq_some_iff_getElem.2 ⟨hk, hp, fun j hj => by rw [hb j _ hj (List.getElem?_eq_getElem (by omega))]; simp⟩
  simp [firstI, this]
theorem firstI_miss {α : Type} {p : α → Bool} {xs : List α} (hb : ∀ (j : Nat) y, j < xs.length → xs[j]? = some y → p y = false) : firstI p xs = -1 := by
  have : xs.findIdx? p = none := List.findIdx?_eq_none_iff.2 (fun x hx => by
    obtain ⟨j, hj, rfl⟩ := List.getElem_of_mem hx
    exact hb j _ hj (List.getElem?_eq_getElem hj))
  simp [firstI, this]
theorem firstI_any {α : Type} (p : α → Bool) (xs : List α) : decide (0 ≤ firstI p xs) = xs.any p := by
  unfold firstI
  cases h : xs.findIdx? p with
  | none =>
    have := List.findIdx?_eq_none_iff.1 h
    symm
    simpa using this
  | some k =>
    obtain ⟨hk, h2, _⟩ := List.findIdx?_eq_some_iff_getElem.1 h
    have : xs.any p = true := List.any_eq_true.2 ⟨xs[k], List.getElem_mem hk, h2⟩
    simp [this]
theorem firstI_lo {α : Type} (p : α → Bool) (xs : List α) : -1 ≤ firstI p xs ∧ firstI p xs ≤ (xs.length : Int) := by
  unfold firstI
  cases h : xs.findIdx? p with
  | none => constructor <;> simp <;> omega
  | some k =>
    obtain ⟨hk, _, _⟩ := List.findIdx?_eq_some_iff_getElem.1 h
    constructor <;> simp <;> omega
def amtB (xs : List Int) : Bool := xs.all (fun x => inB x 0 100)
def clmB (m : Nat) (c : Clm) : Bool := (decide (c.Holds.length = m) && amtB c.Holds) && (decide (c.Needs.length = m) && amtB c.Needs)
def claimsB (cs : List Clm) (fr : List Int) : Bool := decide (cs.length ≤ 6) && (decide (fr.length ≤ 4) && (amtB fr && cs.all (clmB fr.length)))
theorem amtB_any (xs : List Int) : amtB xs = !(xs.any (fun x => !inB x 0 100)) := by simp [amtB, List.all_eq_not_any_not]
set_option maxHeartbeats 1000000 in
theorem idxInt_s (g : Nat) (lb : Array Value) (eg : ∀ args w, (callFunc g args).run Try.prog w = .ok (.enter g args) w) (p : Int → Bool) (v : Value) (xs : List Int) (w : World) (hv : Rds LI w v xs)
    (hp : ∀ W x, w.grownBy W none → Calls Try.prog g (#[.int .i64 x] ++ lb) W fun e w' => e = .returned (.bool (p x)) ∧ W.grownBy w' none) :
    Calls Try.prog 53 #[v, .func (.func g) #[] lb] w fun e w' => e = .returned (.int .i64 (firstI p xs)) ∧ w.grownBy w' none := by
  obtain ⟨a, n, cap, rfl, h1, hm, HN, HC⟩ := LI_get hv
  have HP := Lib.hid hp
  have MISS : RowKit.Hid ((∀ (j : Nat) (x : Int), j < n → xs[j]? = some x → p x = false) → firstI p xs = -1) := fun h => firstI_miss (fun j y hj hy => h j y (by rw [HN.out]; exact hj) hy)
  clear hp
  go_enter Try.func53, Try.ntmps53
  go_wp2
  go_loopw [5, 8] (fun _ i wr => ∃ k : Nat, k ≤ n ∧ i = .int .i64 k ∧ RowKit.Hid (∀ (j : Nat) (x : Int), j < k → xs[j]? = some x → p x = false) ∧ w.grownBy wr none) (fun _ i _ => n - (intOf i).toNat)
  case atStart => exact ⟨0, by omega, rfl, fun j x hj => by omega, World.grownBy.refl _ _⟩
  case round =>
    obtain ⟨k, hk, rfl, HE, hg⟩ := hrel
    by_cases hlt : k < n
    rotate_left
    · have he := Lib.hid (MISS.out (fun j x hj hx => HE.out j x (by omega) hx))
      clear HE
      go_wp2
      go_ret
      exact ⟨by rw [he.out]; rfl, hg⟩
    obtain ⟨b, off, x, rfl, hb, hx, hc⟩ := HC.out k hlt
    have hc' := gb_cell hg hc (by simp)
    have hcall := HP.out wr x hg
    have hlt' : (k : Int) < (n : Int) := by omega
    cases hq : p x with
    | true =>
      rw [hq] at hcall
      have he : RowKit.Hid (firstI p xs = (k : Int)) := firstI_hit hx.out hq HE.out
      clear HE hc hq
      go_wp2_with (go_at_fn g; refine hcall.mono ?_; rintro e w' ⟨rfl, hb'⟩)
      go_ret
      exact ⟨by rw [he.out]; rfl, gb_trans hg hb'⟩
    | false =>
      rw [hq] at hcall
      have HE2 : RowKit.Hid (∀ (j : Nat) (x : Int), j < k + 1 → xs[j]? = some x → p x = false) := by
        intro j y hj hy
        by_cases hjk : j < k
        · exact HE.out j y hjk hy
        · obtain rfl : j = k := by omega
          rw [hx.out] at hy
          rw [← Option.some.inj hy]
          exact hq
      clear HE hc hq
      go_wp2_with (go_at_fn g; refine hcall.mono ?_; rintro e w' ⟨rfl, hb'⟩)
      go_roundw
      case rel => exact ⟨k + 1, by omega, by go_num, HE2, gb_trans hg hb'⟩
      case measure => simp [intOf]; omega
set_option maxHeartbeats 1000000 in
theorem idxClm_s (g : Nat) (lb : Array Value) (eg : ∀ args w, (callFunc g args).run Try.prog w = .ok (.enter g args) w) (p : Clm → Bool) (v : Value) (ys : List Clm) (w : World) (hv : DRds LClm DClm w v ys)
    (hp : ∀ W ra rn rc sa sn sc y z, w.grownBy W none → Rds LI W (.slice ra rn rc) y → Rds LI W (.slice sa sn sc) z → ⟨y, z⟩ ∈ ys → Calls Try.prog g (#[.agg #[.slice ra rn rc, .slice sa sn sc]] ++ lb) W fun e w' => e = .returned (.bool (p ⟨y, z⟩)) ∧ W.grownBy w' none) :
    Calls Try.prog 32 #[v, .func (.func g) #[] lb] w fun e w' => e = .returned (.int .i64 (firstI p ys)) ∧ w.grownBy w' none := by
  obtain ⟨a, n, cap, rfl, h1, hm, HN, HC⟩ := hv.clms
  have HP := Lib.hid hp
  have MISS : RowKit.Hid ((∀ (j : Nat) (x : Clm), j < n → ys[j]? = some x → p x = false) → firstI p ys = -1) := fun h => firstI_miss (fun j y hj hy => h j y (by rw [HN.out]; exact hj) hy)
  clear hp
  go_enter Try.func32, Try.ntmps32
  go_wp2
  go_loopw [5, 8] (fun _ i wr => ∃ k : Nat, k ≤ n ∧ i = .int .i64 k ∧ RowKit.Hid (∀ (j : Nat) (x : Clm), j < k → ys[j]? = some x → p x = false) ∧ w.grownBy wr none) (fun _ i _ => n - (intOf i).toNat)
  case atStart => exact ⟨0, by omega, rfl, fun j x hj => by omega, World.grownBy.refl _ _⟩
  case round =>
    obtain ⟨k, hk, rfl, HE, hg⟩ := hrel
    by_cases hlt : k < n
    rotate_left
    · have he := Lib.hid (MISS.out (fun j x hj hx => HE.out j x (by omega) hx))
      clear HE
      go_wp2
      go_ret
      exact ⟨by rw [he.out]; rfl, hg⟩
    obtain ⟨b, off, ra, rn, rc, sa, sn, sc, y, z, rfl, hb, hx, hrn, hrc, hsn, hsc, hrd, hsd, c0, c1⟩ := HC.out k hlt
    have c0' := gb_cell hg c0 (by simp)
    have c1' := gb_cell hg c1 (by simp)
    have hcall := HP.out wr ra rn rc sa sn sc y z hg (hrd.kept hg) (hsd.kept hg) (List.mem_of_getElem? hx.out)
    have hlt' : (k : Int) < (n : Int) := by omega
    clear c0 c1 hrd hsd hrn hsn
    cases hq : p ⟨y, z⟩ with
    | true =>
      rw [hq] at hcall
      have he : RowKit.Hid (firstI p ys = (k : Int)) := firstI_hit hx.out hq HE.out
      clear HE hq
      go_wp2_with (go_at_fn g; refine hcall.mono ?_; rintro e w' ⟨rfl, hb'⟩)
      go_ret
      exact ⟨by rw [he.out]; rfl, gb_trans hg hb'⟩
    | false =>
      rw [hq] at hcall
      have HE2 : RowKit.Hid (∀ (j : Nat) (x : Clm), j < k + 1 → ys[j]? = some x → p x = false) := by
        intro j y hj hy
        by_cases hjk : j < k
        · exact HE.out j y hjk hy
        · obtain rfl : j = k := by omega
          rw [hx.out] at hy
          rw [← Option.some.inj hy]
          exact hq
      clear HE hq
      go_wp2_with (go_at_fn g; refine hcall.mono ?_; rintro e w' ⟨rfl, hb'⟩)
      go_roundw
      case rel => exact ⟨k + 1, by omega, by go_num, HE2, gb_trans hg hb'⟩
      case measure => simp [intOf]; omega
theorem amt1_s (x : Int) (w : World) : Calls Try.prog 50 #[.int .i64 x] w fun e w' => e = .returned (.bool (!inB x 0 100)) ∧ w = w' := by
  go_enter Try.func50, Try.ntmps50
  go_wp2_with (go_at_call 51; refine (within_b _ _ _ _).mono ?_; rintro e w' ⟨rfl, rfl⟩)
  go_ret
  exact ⟨rfl, rfl⟩
theorem conInt_s (v : Value) (xs : List Int) (w : World) (hv : Rds LI w v xs) :
    Calls Try.prog 49 #[v, .func (.func 50) #[] #[]] w fun e w' => e = .returned (.bool (!amtB xs)) ∧ w.grownBy w' none := by
  have H := idxInt_s 50 #[] (enters_of Try.func50 (by kernel_rfl) rfl) (fun x => !inB x 0 100) v xs w hv (fun W x hg => (amt1_s x W).mono (by rintro e w' ⟨rfl, rfl⟩; exact ⟨rfl, World.grownBy.refl _ _⟩))
  have e : (!amtB xs) = decide (0 ≤ firstI (fun x => !inB x 0 100) xs) := by rw [firstI_any, amtB_any, Bool.not_not]
  rw [e]
  generalize firstI (fun x => !inB x 0 100) xs = r at H ⊢
  clear e hv
  go_enter Try.func49, Try.ntmps49
  go_wp2_with (go_at_call 53; refine H.mono ?_; rintro e w' ⟨rfl, hb'⟩)
  go_ret
  exact ⟨rfl, hb'⟩
set_option maxHeartbeats 1000000 in
theorem i_amounts (v : Value) (xs : List Int) (m : Nat) (w : World) (hv : Rds LI w v xs) :
    Calls Try.prog 39 #[v, .int .i64 m] w fun e w' => e = .returned (.bool (decide (xs.length = m) && amtB xs)) ∧ w.grownBy w' none := by
  have H := Lib.hid (conInt_s v xs w hv)
  obtain ⟨a, n, cap, rfl, h1, hm, HN, -⟩ := LI_get hv
  rw [← HN.out]
  by_cases hc : n = m
  · subst hc
    have e1 : ((n : Int) == (n : Int)) = true := by simp
    simp only [decide_true, Bool.true_and]
    generalize amtB xs = q at H ⊢
    clear hv HN
    go_enter Try.func39, Try.ntmps39
    go_wp2_with (go_at_call 49; refine H.out.mono ?_; rintro e w' ⟨rfl, hb'⟩)
    go_ret
    exact ⟨by simp, hb'⟩
  · have e1 : ((n : Int) == (m : Int)) = false := beq_eq_false_iff_ne.2 (by omega)
    simp only [hc, decide_false, Bool.false_and]
    clear hv HN H
    go_enter Try.func39, Try.ntmps39
    go_wp2
    go_ret
    exact ⟨rfl, World.grownBy.refl _ _⟩
set_option maxHeartbeats 1000000 in
theorem s_small (v : Value) (xs : List Int) (w : World) (hv : Rds LI w v xs) :
    Calls Try.prog 38 #[v] w fun e w' => e = .returned (.bool (amtB xs)) ∧ w = w' := by
  obtain ⟨a, n, cap, rfl, h1, hm, HN, HC⟩ := LI_get hv
  have GOOD : RowKit.Hid ((∀ (j : Nat) (x : Int), j < n → xs[j]? = some x → inB x 0 100 = true) → amtB xs = true) := by
    intro h
    refine List.all_eq_true.2 (fun x hx => ?_)
    obtain ⟨j, hj, rfl⟩ := List.getElem_of_mem hx
    exact h j _ (by rw [HN.out]; exact hj) (List.getElem?_eq_getElem hj)
  have BAD : RowKit.Hid (∀ (j : Nat) (x : Int), xs[j]? = some x → inB x 0 100 = false → amtB xs = false) := by
    intro j x hx hb
    refine List.all_eq_false.2 ⟨x, List.mem_of_getElem? hx, ?_⟩
    simp [hb]
  go_enter Try.func38, Try.ntmps38
  go_wp2
  go_loop [3] (fun i => ∃ k : Nat, k ≤ n ∧ i = .int .i64 k ∧ RowKit.Hid (∀ (j : Nat) (x : Int), j < k → xs[j]? = some x → inB x 0 100 = true)) (fun i => n - (intOf i).toNat)
  case atStart => exact ⟨0, by omega, rfl, fun j x hj => by omega⟩
  case round =>
    obtain ⟨k, hk, rfl, HE⟩ := hrel
    by_cases hlt : k < n
    rotate_left
    · have he := Lib.hid (GOOD.out (fun j x hj hx => HE.out j x (by omega) hx))
      clear HE
      go_wp2
      go_ret
      exact ⟨by rw [he.out]; rfl, rfl⟩
    obtain ⟨b, off, x, rfl, hb, hx, hc⟩ := HC.out k hlt
    cases hq : inB x 0 100 with
    | false =>
      have he := Lib.hid (BAD.out k x hx.out hq)
      have H := Lib.hid (in_b x 0 100 w)
      rw [hq] at H
      clear HE hq
      go_wp2_with (go_at_call 37; refine H.out.mono ?_; rintro e w' ⟨rfl, rfl⟩)
      go_ret
      exact ⟨by rw [he.out]; rfl, rfl⟩
    | true =>
      have HE2 : RowKit.Hid (∀ (j : Nat) (x : Int), j < k + 1 → xs[j]? = some x → inB x 0 100 = true) := by
        intro j y hj hy
        by_cases hjk : j < k
        · exact HE.out j y hjk hy
        · obtain rfl : j = k := by omega
          rw [hx.out] at hy
          rw [← Option.some.inj hy]
          exact hq
      have H := Lib.hid (in_b x 0 100 w)
      rw [hq] at H
      clear HE hq
      go_wp2_with (go_at_call 37; refine H.out.mono ?_; rintro e w' ⟨rfl, rfl⟩)
      go_round
      case rel => exact ⟨k + 1, by omega, by go_num, HE2⟩
      case measure => simp [intOf]; omega
end Go.Proofs.Ytpbihjkfbbmdjaa
