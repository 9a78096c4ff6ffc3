/-
  orderFits and l24Order: both programs ask the same of an order; TourLength.
-/
import Derived.Test.YthkleabdnjhniaaOrderLaw
import Derived.Test.YthkleabdnjhniaaBoolS
namespace Go.Proofs.Ythkleabdnjhniaa
open Go Go.RowKit
/-- slices.Contains, as a Bool that no walk opens. -/
def hasB (os : List Int) (a : Int) : Bool := decide (a ∈ os)
theorem hasB_t {os : List Int} {a : Int} : hasB os a = true ↔ a ∈ os := by simp [hasB]
theorem hasB_f {os : List Int} {a : Int} : hasB os a = false ↔ a ∉ os := by simp [hasB]
set_option maxHeartbeats 1000000 in
theorem index_s (v : Value) (os : List Int) (a : Int) (w : World) (hv : Rds LI w v os) :
    Calls Try.prog 65 #[v, .int .i64 a] w fun e w' => ∃ r : Int, e = .returned (.int .i64 r) ∧ (a ∈ os → 0 ≤ r) ∧ (a ∉ os → r = -1) ∧ w = w' := by
  obtain ⟨ad, n, cap, rfl, h1, hm, HN, HC⟩ := LI_get hv
  have OUT : RowKit.Hid ((∀ (j : Nat) (x : Int), j < n → os[j]? = some x → x ≠ a) → a ∉ os) := by
    intro h ha
    obtain ⟨j, hj, rfl⟩ := List.getElem_of_mem ha
    exact h j _ (by rw [HN.out]; exact hj) (List.getElem?_eq_getElem hj) rfl
  go_enter Try.func65, Try.ntmps65
  go_wp2
  go_loop [5, 8] (fun _ i => ∃ k : Nat, k ≤ n ∧ i = .int .i64 k ∧ RowKit.Hid (∀ (j : Nat) (x : Int), j < k → os[j]? = some x → x ≠ a)) (fun _ i => n - (intOf i).toNat)
  case atStart => exact ⟨0, by omega, rfl, fun j x hj => by omega⟩
  case round =>
    obtain ⟨k, hk, rfl, HE⟩ := hrel
    by_cases hlt : k < n
    rotate_left
    · have he := Lib.hid (OUT.out (fun j x hj hx => HE.out j x (by omega) hx))
      clear HE
      go_wp2
      go_ret
      exact ⟨-1, rfl, fun h => absurd h he.out, fun _ => rfl, rfl⟩
    obtain ⟨b, off, x, rfl, hb, hx, hc⟩ := HC.out k hlt
    by_cases he : a = x
    · subst he
      have hin := Lib.hid (List.mem_of_getElem? hx.out)
      clear HE
      go_wp2
      go_ret
      exact ⟨k, rfl, fun _ => by omega, fun h => absurd hin.out h, rfl⟩
    · have hne : (a == x) = false := by simpa using he
      have HE2 : RowKit.Hid (∀ (j : Nat) (x : Int), j < k + 1 → os[j]? = some x → x ≠ a) := by
        intro j z hj hz
        by_cases hjk : j < k
        · exact HE.out j z hjk hz
        · obtain rfl : j = k := by omega
          rw [hx.out] at hz
          obtain rfl := Option.some.inj hz
          exact fun e => he e.symm
      clear HE
      go_wp2
      go_round
      case rel => exact ⟨k + 1, by omega, by go_num, HE2⟩
      case measure => simp [intOf]; omega
theorem contains_s (v : Value) (os : List Int) (a : Int) (w : World) (hv : Rds LI w v os) :
    Calls Try.prog 54 #[v, .int .i64 a] w fun e w' => e = .returned (.bool (hasB os a)) ∧ w = w' := by
  cases h : hasB os a with
  | true =>
    have hin := Lib.hid (hasB_t.1 h)
    clear h
    go_enter Try.func54, Try.ntmps54
    go_wp2_with (go_at_call 65; refine (index_s _ os a _ hv).mono ?_; rintro e w' ⟨r, rfl, h1, -, rfl⟩; replace h1 := h1 hin.out)
    go_ret
    exact ⟨rfl, rfl⟩
  | false =>
    have hin := Lib.hid (hasB_f.1 h)
    clear h
    go_enter Try.func54, Try.ntmps54
    go_wp2_with (go_at_call 65; refine (index_s _ os a _ hv).mono ?_; rintro e w' ⟨r, rfl, -, h1, rfl⟩; obtain rfl := h1 hin.out)
    go_ret
    exact ⟨rfl, rfl⟩
set_option maxHeartbeats 1000000 in
theorem orderFits_s (v u : Value) (xs : List Pt) (os : List Int) (w : World) (hv : Rds LPt w v xs) (hu : Rds LI w u os) :
    Calls Try.prog 50 #[v, u] w fun e w' => e = .returned (.bool (fitsB xs os)) ∧ w.grownBy w' none := by
  have HI : RowKit.Hid (Calls Try.prog 16 #[v] w fun e w' => e = .returned (.bool (stopsB xs)) ∧ w.grownBy w' none) := i_StopsValid v xs w hv
  have hu0 := hu
  unfold fitsB
  cases hB : stopsB xs with
  | false =>
    rw [hB] at HI
    clear hB
    go_enter Try.func50, Try.ntmps50
    go_wp2_with (go_at_call 16; refine (HI.out).mono ?_; rintro e w1 ⟨rfl, g1⟩)
    go_ret
    exact ⟨rfl, g1⟩
  | true =>
    rw [hB] at HI
    rw [Bool.true_and]
    have hs := stopsB_len hB
    clear hB
    obtain ⟨a, n, cap, rfl, h1, hm, HN, HC⟩ := LPt_get hv
    obtain ⟨a', m, cap', rfl, h1', hm', HN', HC'⟩ := LI_get hu
    rw [← HN.out] at hs ⊢
    have hs16 := hs.2
    by_cases hl : m = n
    rotate_left
    · have e : ordB n os = false := ordB_len (fun h => hl (by rw [HN'.out, h]))
      rw [e]
      have hne : ((m : Int) == (n : Int)) = false := by simpa using fun h : (m : Int) = n => hl (by omega)
      clear e
      go_enter Try.func50, Try.ntmps50
      go_wp2_with (go_at_call 16; refine (HI.out).mono ?_; rintro e w1 ⟨rfl, g1⟩)
      go_ret
      exact ⟨rfl, g1⟩
    subst hl
    have BAD : RowKit.Hid (∀ k : Nat, k < m → (k : Int) ∉ os → ordB m os = false) := fun k hk h => ordB_f.2 (fun h2 => h (h2.2 k hk))
    have GOOD : RowKit.Hid ((∀ k : Nat, k < m → (k : Int) ∈ os) → ordB m os = true) := fun h => ordB_t.2 ⟨HN'.out.symm, h⟩
    go_enter Try.func50, Try.ntmps50
    go_wp2_with (go_at_call 16; refine (HI.out).mono ?_; rintro e w1 ⟨rfl, g1⟩)
    go_loop [5, 18] (fun _ i => ∃ k : Nat, k ≤ m ∧ i = .int .i64 k ∧ RowKit.Hid (∀ j : Nat, j < k → (j : Int) ∈ os)) (fun _ i => m - (intOf i).toNat)
    case atStart => exact ⟨0, by omega, rfl, fun j hj => by omega⟩
    case round =>
      obtain ⟨k, hk, rfl, HE⟩ := hrel
      by_cases hlt : k < m
      rotate_left
      · have he := Lib.hid (GOOD.out (fun j hj => HE.out j (by omega)))
        clear HE
        go_wp2
        go_ret
        exact ⟨by rw [he.out]; rfl, g1⟩
      cases hc : hasB os (k : Int) with
      | false =>
        have he := Lib.hid (BAD.out k hlt (hasB_f.1 hc))
        have R := hu0.kept g1
        clear HE
        go_wp2_with (go_at_call 54; refine (contains_s _ os (k : Int) _ R).mono ?_; rintro e w' ⟨rfl, rfl⟩)
        go_ret
        exact ⟨by rw [he.out]; rfl, g1⟩
      | true =>
        have HE2 : RowKit.Hid (∀ j : Nat, j < k + 1 → (j : Int) ∈ os) := by
          intro j hj
          by_cases hjk : j < k
          · exact HE.out j hjk
          · obtain rfl : j = k := by omega
            exact hasB_t.1 hc
        have R := hu0.kept g1
        clear HE
        go_wp2_with (go_at_call 54; refine (contains_s _ os (k : Int) _ R).mono ?_; rintro e w' ⟨rfl, rfl⟩)
        go_round
        case rel => exact ⟨k + 1, by omega, by go_num, HE2⟩
        case measure => simp [intOf]; omega
set_option maxHeartbeats 1000000 in
theorem order_s (u : Value) (os : List Int) (n : Nat) (w : World) (hu : Rds LI w u os) (hn : n ≤ 1000) :
    Calls Try.prog 48 #[u, .int .i64 (n : Int)] w fun e w' => e = .returned (.bool (ordB n os)) ∧ w.grownBy w' none := by
  obtain ⟨a', m, cap', rfl, h1', hm', HN', HC'⟩ := LI_get hu
  by_cases hl : m = n
  rotate_left
  · have e : ordB n os = false := ordB_len (fun h => hl (by rw [HN'.out, h]))
    rw [e]
    have hne : ((m : Int) == (n : Int)) = false := by simpa using fun h : (m : Int) = n => hl (by omega)
    clear e
    go_enter Try.func48, Try.ntmps48
    go_wp2
    go_ret
    exact ⟨rfl, World.grownBy.refl _ _⟩
  subst hl
  have OUT : RowKit.Hid (∀ (k : Nat) (x : Int), os[k]? = some x → ¬ (0 ≤ x ∧ x ≤ (m : Int) - 1) → ordB m os = false) := fun k x h hx => ordB_out h hx
  have TWICE : RowKit.Hid (∀ (k : Nat) (x : Int), os[k]? = some x → x ∈ os.take k → ordB m os = false) := fun k x h hx => ordB_twice h hx
  have GOOD : RowKit.Hid (∀ k, k = m → (os.take k).Nodup → (∀ a ∈ os.take k, 0 ≤ a ∧ a ≤ (m : Int) - 1) → ordB m os = true) := by
    rintro k rfl hd hi
    rw [HN'.out, List.take_length] at hd hi
    exact ordB_t.2 (ordOk_of HN'.out.symm (by rw [HN'.out]; exact hi) hd)
  go_enter Try.func48, Try.ntmps48
  go_wp2_with (at_make; refine wpList_mk LB_info rfl _ _ rfl (St.refl w) _ m rfl rfl rfl (by omega) ?_; intro w1 S hg)
  rw [← seenTo_zero m os] at S
  clear hg
  go_loopw [6] (fun i wr => ∃ k : Nat, k ≤ m ∧ i = .int .i64 k ∧ RowKit.Hid ((os.take k).Nodup ∧ ∀ a ∈ os.take k, 0 ≤ a ∧ a ≤ (m : Int) - 1) ∧ St w wr [Own LB (.slice (some ⟨w.heap.size, 0, none⟩) m m) (seenTo m os k)]) (fun i _ => m - (intOf i).toNat)
  case atStart => exact ⟨0, by omega, rfl, ⟨by simp, by simp⟩, S⟩
  case round =>
    obtain ⟨k, hk, rfl, HE, S'⟩ := hrel
    clear S
    by_cases hlt : k < m
    rotate_left
    · have he := Lib.hid (GOOD.out k (by omega) HE.out.1 HE.out.2)
      clear HE
      go_wp2
      go_ret
      exact ⟨by rw [he.out]; rfl, S'.gb⟩
    obtain ⟨b, off, x, rfl, hb, hx, hc⟩ := HC'.out k hlt
    have hc' := gb_cell S'.gb hc (by simp)
    clear hc
    by_cases hr : 0 ≤ x ∧ x ≤ (m : Int) - 1
    rotate_left
    · have he := Lib.hid (OUT.out k x hx.out hr)
      clear HE
      go_wp2_with (go_at_call 40; refine (in_f _ _ _ _ hr).mono ?_; rintro e w' ⟨rfl, rfl⟩)
      go_ret
      exact ⟨by rw [he.out]; rfl, S'.gb⟩
    obtain ⟨x0, x1⟩ := hr
    obtain ⟨X, rfl⟩ := Int.eq_ofNat_of_zero_le x0
    obtain ⟨oa', on', oc', hov, -, hom, HN3, HC3⟩ := LB_own S'
    simp only [Value.slice.injEq] at hov
    obtain ⟨rfl, rfl, rfl⟩ := hov
    obtain ⟨g, z, hga, -, hgs, hz, hcz, hfz⟩ := HC3.out X (by omega)
    simp only [Option.some.injEq, Addr.mk.injEq, and_true] at hga
    subst hga
    have hzz : z = decide ((X : Int) ∈ os.take k) := by
      have := hz.out
      rw [seenTo_at _ _ _ _ (by omega)] at this
      exact (Option.some.inj this).symm
    by_cases hin : (X : Int) ∈ os.take k
    · have he := Lib.hid (TWICE.out k _ hx.out hin)
      obtain rfl : z = true := by rw [hzz]; simpa using hin
      clear HE hzz HN3 HC3 hz hx hin
      go_wp2_with (go_at_call 40; refine (in_t _ _ _ _ ⟨by omega, by omega⟩).mono ?_; rintro e w' ⟨rfl, rfl⟩)
      go_ret
      exact ⟨by rw [he.out]; rfl, S'.gb⟩
    · obtain rfl : z = false := by rw [hzz]; simpa using hin
      have HE2 : RowKit.Hid ((os.take (k + 1)).Nodup ∧ ∀ a ∈ os.take (k + 1), 0 ≤ a ∧ a ≤ (m : Int) - 1) := by
        refine ⟨nodup_snoc hx.out HE.out.1 hin, fun a ha => ?_⟩
        rw [take_succ_at hx.out, List.mem_append, List.mem_singleton] at ha
        rcases ha with ha | rfl
        · exact HE.out.2 a ha
        · exact ⟨by omega, by omega⟩
      have S2 := LB_set S' (g := w.heap.size) rfl X true (by rw [seenTo_len]; omega)
      rw [seenTo_set m os k X hx.out] at S2
      have SH := Lib.hid S2
      clear HE hzz HN3 HC3 hz hx hin S2
      go_wp2_with (go_at_call 40; refine (in_t _ _ _ _ ⟨by omega, by omega⟩).mono ?_; rintro e w' ⟨rfl, rfl⟩)
      go_roundw
      case rel => exact ⟨k + 1, by omega, by go_num, HE2, SH.out⟩
      case measure => simp [intOf]; omega
set_option maxHeartbeats 1000000 in
theorem i_TourLength (v : Value) (xs : List Pt) (u : Value) (os : List Int) (w : World) (hv : Rds LPt w v xs) (hu : Rds LI w u os) :
    Calls Try.prog 22 #[v, u] w fun e w' => e = .returned (.int .i64 (tourLen xs os)) ∧ w.grownBy w' none := by
  have HF : RowKit.Hid (Calls Try.prog 50 #[v, u] w fun e w' => e = .returned (.bool (fitsB xs os)) ∧ w.grownBy w' none) := orderFits_s v u xs os w hv hu
  cases hB : fitsB xs os with
  | false =>
    rw [hB] at HF
    rw [tourLen_no hB]
    clear hB
    go_enter Try.func22, Try.ntmps22
    go_wp2_with (go_at_call 50; refine (HF.out).mono ?_; rintro e w1 ⟨rfl, g1⟩)
    go_ret
    exact ⟨rfl, g1⟩
  | true =>
    rw [hB] at HF
    rw [tourLen_yes hB]
    obtain ⟨f1, f2⟩ := fits_of hB
    have hp := Lib.hid (stopsB_pts f1)
    have ho := Lib.hid f2.inN
    have hl : os.length ≤ 1000 := by have := stopsB_len f1; have := f2.1; omega
    clear hB f1 f2
    go_enter Try.func22, Try.ntmps22
    go_wp2_with (first | (go_at_call 50; refine (HF.out).mono ?_; rintro e w1 ⟨rfl, g1⟩) | (go_at_call 51; refine (i_len _ _ xs os _ (hv.kept g1) (hu.kept g1) hp.out ho.out hl).mono ?_; rintro e w2 ⟨rfl, g2⟩))
    go_ret
    exact ⟨rfl, gb_trans g1 g2⟩
set_option maxHeartbeats 1000000 in
theorem s_TourLength (v : Value) (xs : List Pt) (u : Value) (os : List Int) (w : World) (hv : Rds LPt w v xs) (hu : Rds LI w u os) :
    Calls Try.prog 20 #[v, u] w fun e w' => e = .returned (.int .i64 (tourLen xs os)) ∧ w.grownBy w' none := by
  have HI : RowKit.Hid (Calls Try.prog 14 #[v] w fun e w' => e = .returned (.bool (stopsB xs)) ∧ w.grownBy w' none) := s_StopsValid v xs w hv
  have hv0 := hv
  cases hS : stopsB xs with
  | false =>
    rw [hS] at HI
    rw [tourLen_no (by unfold fitsB; rw [hS]; rfl)]
    clear hS
    go_enter Try.func20, Try.ntmps20
    go_wp2_with (go_at_call 14; refine (HI.out).mono ?_; rintro e w1 ⟨rfl, g1⟩)
    go_ret
    exact ⟨rfl, g1⟩
  | true =>
    rw [hS] at HI
    have hp := Lib.hid (stopsB_pts hS)
    have hs := stopsB_len hS
    obtain ⟨a, n, cap, rfl, h1, hm, HN, HC⟩ := LPt_get hv
    have hn16 : n ≤ 1000 := by have := HN.out; omega
    have HO : RowKit.Hid (∀ w1, Rds LI w1 u os → Calls Try.prog 48 #[u, .int .i64 (n : Int)] w1 fun e w' => e = .returned (.bool (ordB n os)) ∧ w1.grownBy w' none) := fun w1 h => order_s u os n w1 h hn16
    cases hB : ordB n os with
    | false =>
      rw [hB] at HO
      rw [tourLen_no (by unfold fitsB; rw [← HN.out, hB, Bool.and_false])]
      clear hB hS HC
      go_enter Try.func20, Try.ntmps20
      go_wp2_with (first | (go_at_call 14; refine (HI.out).mono ?_; rintro e w1 ⟨rfl, g1⟩) | (go_at_call 48; refine (HO.out _ (hu.kept g1)).mono ?_; rintro e w2 ⟨rfl, g2⟩))
      go_ret
      exact ⟨rfl, gb_trans g1 g2⟩
    | true =>
      rw [hB] at HO
      have hf : fitsB xs os = true := by unfold fitsB; rw [hS, ← HN.out, hB]; rfl
      rw [tourLen_yes hf]
      have f2 := (fits_of hf).2
      have ho := Lib.hid f2.inN
      have hl : os.length ≤ 1000 := by have := f2.1; have := HN.out; omega
      clear hB hS HC hf f2
      go_enter Try.func20, Try.ntmps20
      go_wp2_with (first | (go_at_call 14; refine (HI.out).mono ?_; rintro e w1 ⟨rfl, g1⟩) | (go_at_call 48; refine (HO.out _ (hu.kept g1)).mono ?_; rintro e w2 ⟨rfl, g2⟩) | (go_at_call 49; refine (s_len _ _ xs os _ ((hv0.kept g1).kept g2) ((hu.kept g1).kept g2) hp.out ho.out hl).mono ?_; rintro e w3 ⟨rfl, g3⟩))
      go_ret
      exact ⟨rfl, gb_trans (gb_trans g1 g2) g3⟩
end Go.Proofs.Ythkleabdnjhniaa
