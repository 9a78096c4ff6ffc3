/-
  SpeedEstimates: for every list and window, both programs make the same new list; nothing that was there is changed.
-/
import Derived.Test.YtbeihmhiofkjlaaFloor
import Derived.Deep.AppendLies
import Derived.Deep.RegionLaw
namespace Go.Proofs.Ytbeihmhiofkjlaa
open Go Go.RowKit
def within6 (xs : List Int) : Prop := ∀ x ∈ xs, -1000000 ≤ x ∧ x ≤ 1000000
def speedAt (xs : List Int) (W j : Nat) : Int := (xs.getD (j + W) 0 - xs.getD j 0) / (W : Int)
def speedTo (xs : List Int) (W n : Nat) : List Int := (List.range n).map (speedAt xs W)
open Classical in
noncomputable def speeds (xs : List Int) (win : Int) : List Int := if xs.length ≤ 200 ∧ (1 ≤ win ∧ win ≤ 50) ∧ within6 xs then speedTo xs win.toNat (xs.length - win.toNat) else []
theorem speeds_yes {xs : List Int} {W : Nat} (h1 : xs.length ≤ 200) (h2 : 1 ≤ W ∧ W ≤ 50) (h3 : within6 xs) : speeds xs (W : Int) = speedTo xs W (xs.length - W) := by
  unfold speeds; rw [if_pos ⟨h1, by omega, h3⟩]; simp
theorem speeds_no {xs : List Int} {win : Int} (h : ¬ (xs.length ≤ 200 ∧ (1 ≤ win ∧ win ≤ 50) ∧ within6 xs)) : speeds xs win = [] := by unfold speeds; rw [if_neg h]
theorem speedTo_len (xs : List Int) (W n : Nat) : (speedTo xs W n).length = n := by simp [speedTo]
theorem speedTo_succ (xs : List Int) (W n : Nat) : speedTo xs W (n + 1) = speedTo xs W n ++ [speedAt xs W n] := by simp [speedTo, List.range_succ]
theorem w6_at {xs : List Int} (h : within6 xs) (k : Nat) (hk : k < xs.length) : -1000000 ≤ xs.getD k 0 ∧ xs.getD k 0 ≤ 1000000 := by
  rw [show xs.getD k 0 = xs[k] by simp [hk]]; exact h _ (List.getElem_mem hk)
theorem w6_all {xs : List Int} (h : ∀ k, k < xs.length → -1000000 ≤ xs.getD k 0 ∧ xs.getD k 0 ≤ 1000000) : within6 xs := by
  intro x hx
  obtain ⟨k, hk, rfl⟩ := List.getElem_of_mem hx
  have := h k hk
  rwa [show xs.getD k 0 = xs[k] by simp [hk]] at this
def SpeedPost (l : List Int) (w : World) (e : Ending) (w' : World) : Prop := ∃ u, e = .returned u ∧ OwnI w.heap.size w' u l ∧ w.grownBy w' none
set_option maxHeartbeats 4000000 in
theorem i_SpeedEstimates (v : Value) (xs : List Int) (win : Int) (w : World) (hv : Ints w v xs) :
    Calls Try.prog 31 #[v, .int .i64 win] w (SpeedPost (speeds xs win) w) := by
  obtain ⟨i0, hi, hz0, hz1, hz2⟩ := info_parts intInfo
  obtain ⟨a, n, cap, rfl, h1, hm, HN, HC⟩ := hv.get
  clear hv
  by_cases hf : 1 ≤ win ∧ win ≤ 50
  rotate_left
  · rw [speeds_no (fun h => hf h.2.1)]
    go_enter Try.func31, Try.ntmps31
    go_wp2_with (go_at_call 37; refine (within_f _ _ _ _ hf).mono ?_; rintro e w' ⟨rfl, rfl⟩)
    go_ret
    exact ⟨_, rfl, OwnI.nil _ _, World.grownBy.refl _ _⟩
  obtain ⟨f0, f3⟩ := hf
  by_cases hl : 200 < n
  · rw [speeds_no (fun h => by have := HN.out; omega)]
    go_enter Try.func31, Try.ntmps31
    go_wp2
    go_ret
    exact ⟨_, rfl, OwnI.nil _ _, World.grownBy.refl _ _⟩
  have hl' : n ≤ 200 := by omega
  clear hl
  obtain ⟨W, rfl⟩ := Int.eq_ofNat_of_zero_le (show 0 ≤ win by omega)
  have FIN : RowKit.Hid (∀ (wr : World) (u : Value) (m : Nat), within6 xs → m = n - W → OwnI w.heap.size wr u (speedTo xs W m) → w.grownBy wr none → SpeedPost (speeds xs W) w (.returned u) wr) := by
    intro wr u m h3 hm' ho hg
    refine ⟨u, rfl, ?_, hg⟩
    rw [speeds_yes (by rw [← HN.out]; exact hl') (by omega) h3, ← HN.out, ← hm']
    exact ho
  have BAD : RowKit.Hid (∀ (wr : World), ¬ within6 xs → w.grownBy wr none → SpeedPost (speeds xs W) w (.returned (.slice none 0 0)) wr) := by
    intro wr h3 hg
    refine ⟨_, rfl, ?_, hg⟩
    rw [speeds_no (fun h => h3 h.2.2)]
    exact OwnI.nil _ _
  go_enter Try.func31, Try.ntmps31
  go_wp2_with (go_at_call 37; refine (within_t _ _ _ _ ⟨f0, f3⟩).mono ?_; rintro e w' ⟨rfl, rfl⟩)
  go_loopw [4, 6, 19] (fun _ _ i wr => ∃ k : Nat, k ≤ n ∧ i = .int .i64 k ∧ RowKit.Hid (∀ j, j < k → -1000000 ≤ xs.getD j 0 ∧ xs.getD j 0 ≤ 1000000) ∧ w = wr) (fun _ _ i _ => n - (intOf i).toNat)
  case atStart => exact ⟨0, by omega, rfl, fun j hj => by omega, rfl⟩
  case round =>
    obtain ⟨k, hk, rfl, HE, rfl⟩ := hrel
    by_cases hlt : k < n
    · obtain ⟨b, off, x, rfl, hc, hx, hb⟩ := HC.out k hlt
      by_cases hok : -1000000 ≤ x ∧ x ≤ 1000000
      · have HS : RowKit.Hid (∀ j, j < k + 1 → -1000000 ≤ xs.getD j 0 ∧ xs.getD j 0 ≤ 1000000) := by
          intro j hj
          by_cases hjk : j < k
          · exact HE.out j hjk
          · obtain rfl : j = k := by omega
            rw [← hx.out]; exact hok
        clear HE hx
        go_wp2_with (go_at_call 37; refine (within_t _ _ _ _ hok).mono ?_; rintro e w' ⟨rfl, rfl⟩)
        go_roundw
        case rel => exact ⟨k + 1, by omega, by go_num, HS, trivial⟩
        case measure => simp [intOf]; omega
      · have HB := Lib.hid (show ¬ within6 xs from fun h => hok (by rw [hx.out]; exact w6_at h k (by rw [← HN.out]; exact hlt)))
        clear HE hx
        go_wp2_with (go_at_call 37; refine (within_f _ _ _ _ hok).mono ?_; rintro e w' ⟨rfl, rfl⟩)
        go_ret
        exact BAD.out _ HB.out (World.grownBy.refl _ _)
    · have H6 := Lib.hid (w6_all (fun j hj => HE.out j (by have := HN.out; omega)))
      clear HE
      go_wp2
      clear hlt hk
      go_loopw [7, 8] (fun u i wr => ∃ m : Nat, i = .int .i64 ((m : Int) + W) ∧ m ≤ n - W ∧ RowKit.Hid (OwnI w.heap.size wr u (speedTo xs W m)) ∧ RowKit.Hid (w.grownBy wr none)) (fun _ i _ => n - (intOf i).toNat)
      case atStart => exact ⟨0, by simp, by omega, OwnI.nil _ _, World.grownBy.refl _ _⟩
      case round =>
        obtain ⟨m, rfl, hmn, HO, HG⟩ := hrel
        have hO := HO.out
        have hG := HG.out
        by_cases hlt : m < n - W
        · obtain ⟨b, off, x, hab, hc, hx, hb⟩ := HC.out (m + W) (by omega)
          obtain ⟨b2, off2, y, hab2, hc2, hy, hb2⟩ := HC.out m (by omega)
          subst hab
          obtain ⟨rfl, rfl⟩ : b = b2 ∧ off = off2 := by simpa using hab2
          have bx := w6_at H6.out (m + W) (by rw [← HN.out]; omega)
          have by' := w6_at H6.out m (by rw [← HN.out]; omega)
          rw [← hx.out] at bx
          rw [← hy.out] at by'
          obtain ⟨bx1, bx2⟩ := bx
          obtain ⟨by1, by2⟩ := by'
          have hc' := gb_cell hG hc (by simp)
          have hc2' := gb_cell hG hc2 (by simp)
          go_wp2_with fail
          have hsub : IntKind.i64.wrap (x - y) = x - y := IntWalk.i64_in _ (by omega)
          have k1 : (0 : Int) ≤ (m : Int) + W := by omega
          have k2 : (m : Int) + W < n := by omega
          have k3 : ((m : Int) + W).toNat = m + W := by omega
          have k4 : (m : Int) < n := by omega
          have k5 : IntKind.i64.wrap ((m : Int) + W - W) = (m : Int) := by rw [IntWalk.i64_in _ (by omega)]; omega
          have k6 : IntKind.i64.wrap (m : Int) = (m : Int) := IntWalk.i64_in _ (by omega)
          go_region_law (first
            | (go_simp; go_at_call 44; refine (floor_any _ _ _ ⟨by omega, by omega⟩ ⟨by omega, by omega⟩).mono ?_; rintro e w' ⟨rfl, rfl⟩)
            | (refine step_append_lies (hgd := rfl) (s := .tmp 34) (x := .tmp 48) (t := 32) (ho := rfl) (base := w.heap.size) (e := 3) (i := i0) (z := .int .i64 0) (size := 1) (bytes := 8) (ht := Try.underlying32) (hi := hi) (hz := hz0) (hsize := hz1) (hby := hz2) (hzs := rfl) (hsz := Nat.one_pos) (hs := ?s1) (hown := hO.kept0 (gb_alloc (gb_drew (World.grownBy.refl wr _)) _)) (ad := ⟨wr.heap.size, 0, none⟩) (m := 1) (c := 1) (news := [.int .i64 ((x - y) / (W : Int))]) (hx := ?s2) (hl := rfl) (hnews := ?s3) (h1 := ?s4) (hm := Nat.one_pos) (h63 := ?s5) (hbytes := ?s6) (hbase := ?s7) (H := _) (hH := rfl) (h := ?_)
               (case s1 => simp [Act.eval])
               (case s2 => simp [Act.eval])
               (case s3 => (intro j u hj; match j, hj with | 0, hj => (simp at hj; subst hj; simp [go_sem])))
               (case s4 => (intro u hu; simp at hu; subst hu; rfl))
               (case s5 => (rw [speedTo_len]; unfold maxLen; omega))
               (case s6 => (rw [speedTo_len]; omega))
               (case s7 => (have := hG.size; simp; omega))
               intro g gc w2 hown' hgrow hgg hgs))
          all_goals
            have O2 : RowKit.Hid (OwnI w.heap.size w2 (.slice (some ⟨g, 0, none⟩) ((speedTo xs W m).length + 1) gc) (speedTo xs W (m + 1))) := by
              show OwnI _ _ _ _
              rw [speedTo_succ, show speedAt xs W m = (x - y) / (W : Int) by unfold speedAt; rw [← hx.out, ← hy.out]]
              exact OwnI.snoc hown'
            have G2 := Lib.hid (gb_own (gb_alloc (gb_drew hG) (.cells #[.int .i64 ((x - y) / (W : Int))] 3)) hgrow (fun r hr => hO.row r hr))
            have R2 : RowKit.Hid (m + 1 ≤ n - W) := hlt
            clear hown' hgrow hgg hgs hO hG HO HG hc' hc2' hc hc2 hx hy bx1 bx2 by1 by2 hsub
            go_wp2
            go_roundw
            case rel => exact ⟨m + 1, by go_num, R2.out, O2, G2⟩
            case measure => simp [intOf]; omega
        · obtain rfl : m = n - W := by omega
          have kk : (n : Int) ≤ ((n - W : Nat) : Int) + W := by omega
          go_wp2
          go_ret
          exact FIN.out _ _ _ H6.out rfl hO hG
set_option maxHeartbeats 4000000 in
theorem s_SpeedEstimates (v : Value) (xs : List Int) (win : Int) (w : World) (hv : Ints w v xs) :
    Calls Try.prog 30 #[v, .int .i64 win] w (SpeedPost (speeds xs win) w) := by
  obtain ⟨i0, hi, hz0, hz1, hz2⟩ := info_parts intInfo
  obtain ⟨a, n, cap, rfl, h1, hm, HN, HC⟩ := hv.get
  clear hv
  by_cases hf : 1 ≤ win ∧ win ≤ 50
  rotate_left
  · rw [speeds_no (fun h => hf h.2.1)]
    go_enter Try.func30, Try.ntmps30
    go_wp2_with (go_at_call 36; refine (in_f _ _ _ _ hf).mono ?_; rintro e w' ⟨rfl, rfl⟩)
    go_ret
    exact ⟨_, rfl, OwnI.empty _, World.grownBy_alloc _ _ _⟩
  by_cases hl : 200 < n
  · rw [speeds_no (fun h => by have := HN.out; omega)]
    go_enter Try.func30, Try.ntmps30
    go_wp2_with (go_at_call 36; refine (in_t _ _ _ _ hf).mono ?_; rintro e w' ⟨rfl, rfl⟩)
    go_ret
    exact ⟨_, rfl, OwnI.empty _, World.grownBy_alloc _ _ _⟩
  obtain ⟨f0, f3⟩ := hf
  have hl' : n ≤ 200 := by omega
  clear hl
  obtain ⟨W, rfl⟩ := Int.eq_ofNat_of_zero_le (show 0 ≤ win by omega)
  have FIN : RowKit.Hid (∀ (wr : World) (u : Value), (∀ j, j < n → -1000000 ≤ xs.getD j 0 ∧ xs.getD j 0 ≤ 1000000) → OwnI w.heap.size wr u (speedTo xs W (n - W)) → w.grownBy wr none → SpeedPost (speeds xs W) w (.returned u) wr) := by
    intro wr u h3 ho hg
    refine ⟨u, rfl, ?_, hg⟩
    rw [speeds_yes (by rw [← HN.out]; exact hl') (by omega) (w6_all (fun j hj => h3 j (by rw [HN.out]; exact hj))), ← HN.out]
    exact ho
  have BAD : RowKit.Hid (∀ (wr : World), ¬ within6 xs → w.grownBy wr none → SpeedPost (speeds xs W) w (.returned (.slice (some ⟨wr.heap.size, 0, none⟩) 0 0)) (wr.alloc (.cells #[] 3))) := by
    intro wr h3 hg
    refine ⟨_, rfl, ?_, gb_alloc hg _⟩
    rw [speeds_no (fun h => h3 h.2.2)]
    exact (OwnI.empty wr).mono hg.size
  go_enter Try.func30, Try.ntmps30
  go_wp2_with (go_at_call 36; refine (in_t _ _ _ _ ⟨f0, f3⟩).mono ?_; rintro e w' ⟨rfl, rfl⟩)
  go_loopw [4, 5, 6] (fun _ u i wr => ∃ k : Nat, k ≤ n ∧ i = .int .i64 k ∧ RowKit.Hid (∀ j, j < k → -1000000 ≤ xs.getD j 0 ∧ xs.getD j 0 ≤ 1000000) ∧ RowKit.Hid (OwnI w.heap.size wr u (speedTo xs W (k - W))) ∧ RowKit.Hid (w.grownBy wr none)) (fun _ _ i _ => n - (intOf i).toNat)
  case atStart => exact ⟨0, by omega, rfl, fun j hj => by omega, by rw [Nat.zero_sub]; exact OwnI.empty _, World.grownBy_alloc _ _ _⟩
  case round =>
    obtain ⟨k, hk, rfl, HE, HO, HG⟩ := hrel
    have hO := HO.out
    have hG := HG.out
    by_cases hlt : k < n
    rotate_left
    · obtain rfl : k = n := by omega
      go_wp2
      go_ret
      exact FIN.out _ _ HE.out hO hG
    obtain ⟨b, off, x, rfl, hc, hx, hb⟩ := HC.out k hlt
    have hc' := gb_cell hG hc (by simp)
    by_cases hok : -1000000 ≤ x ∧ x ≤ 1000000
    rotate_left
    · have HB := Lib.hid (show ¬ within6 xs from fun h => hok (by rw [hx.out]; exact w6_at h k (by rw [← HN.out]; exact hlt)))
      clear HE hx
      go_wp2_with (go_at_call 36; refine (in_f _ _ _ _ hok).mono ?_; rintro e w' ⟨rfl, rfl⟩)
      go_ret
      exact BAD.out _ HB.out hG
    have HS : RowKit.Hid (∀ j, j < k + 1 → -1000000 ≤ xs.getD j 0 ∧ xs.getD j 0 ≤ 1000000) := by
      intro j hj
      by_cases hjk : j < k
      · exact HE.out j hjk
      · obtain rfl : j = k := by omega
        rw [← hx.out]; exact hok
    by_cases hkw : k < W
    · have O2 : RowKit.Hid (OwnI w.heap.size wr u5 (speedTo xs W (k + 1 - W))) := by
        rw [show k + 1 - W = k - W by omega]; exact hO
      clear HE hx hO hG HO
      go_wp2_with (go_at_call 36; refine (in_t _ _ _ _ hok).mono ?_; rintro e w' ⟨rfl, rfl⟩)
      go_roundw
      case rel => exact ⟨k + 1, by omega, by go_num, HS, O2, HG⟩
      case measure => simp [intOf]; omega
    obtain ⟨m, rfl⟩ : ∃ m, k = m + W := ⟨k - W, by omega⟩
    obtain ⟨b2, off2, y, hab2, hc2, hy, hb2⟩ := HC.out m (by omega)
    obtain ⟨rfl, rfl⟩ : b = b2 ∧ off = off2 := by simpa using hab2
    clear hab2
    have hc2' := gb_cell hG hc2 (by simp)
    have b2' := HE.out m (by omega)
    rw [← hy.out] at b2'
    obtain ⟨by1, by2⟩ := b2'
    obtain ⟨bx1, bx2⟩ := hok
    have hsub : IntKind.i64.wrap (x - y) = x - y := IntWalk.i64_in _ (by omega)
    rw [show m + W - W = m by omega] at hO
    have hsz := hG.size
    clear HO HE
    go_wp2_with (go_at_call 36; refine (in_t _ _ _ _ ⟨bx1, bx2⟩).mono ?_; rintro e w' ⟨rfl, rfl⟩)
    have k1 : (0 : Int) ≤ (m : Int) + W := by omega
    have k2 : (m : Int) + W < n := by omega
    have k3 : ((m : Int) + W).toNat = m + W := by omega
    have k4 : (m : Int) < n := by omega
    have k5 : IntKind.i64.wrap ((m : Int) + W - W) = (m : Int) := by rw [IntWalk.i64_in _ (by omega)]; omega
    have k6 : IntKind.i64.wrap (m : Int) = (m : Int) := IntWalk.i64_in _ (by omega)
    go_region_law (first
      | (go_simp; go_at_call 43; refine (l1Floor_any _ _ _ ⟨by omega, by omega⟩ ⟨by omega, by omega⟩).mono ?_; rintro e w' ⟨rfl, rfl⟩)
      | (refine step_append_lies (hgd := rfl) (s := .tmp 33) (x := .tmp 47) (t := 32) (ho := rfl) (base := w.heap.size) (e := 3) (i := i0) (z := .int .i64 0) (size := 1) (bytes := 8) (ht := Try.underlying32) (hi := hi) (hz := hz0) (hsize := hz1) (hby := hz2) (hzs := rfl) (hsz := Nat.one_pos) (hs := ?s1) (hown := hO.kept0 (gb_alloc (gb_drew (World.grownBy.refl wr _)) _)) (ad := ⟨wr.heap.size, 0, none⟩) (m := 1) (c := 1) (news := [.int .i64 ((x - y) / (W : Int))]) (hx := ?s2) (hl := rfl) (hnews := ?s3) (h1 := ?s4) (hm := Nat.one_pos) (h63 := ?s5) (hbytes := ?s6) (hbase := ?s7) (H := _) (hH := rfl) (h := ?_)
         (case s1 => simp [Act.eval])
         (case s2 => simp [Act.eval])
         (case s3 => (intro j u hj; match j, hj with | 0, hj => (simp at hj; subst hj; simp [go_sem])))
         (case s4 => (intro u hu; simp at hu; subst hu; rfl))
         (case s5 => (rw [speedTo_len]; unfold maxLen; omega))
         (case s6 => (rw [speedTo_len]; omega))
         (case s7 => (have := hG.size; simp; omega))
         intro g gc w2 hown' hgrow hgg hgs))
    all_goals
      have O2 : RowKit.Hid (OwnI w.heap.size w2 (.slice (some ⟨g, 0, none⟩) ((speedTo xs W m).length + 1) gc) (speedTo xs W (m + W + 1 - W))) := by
        show OwnI _ _ _ _
        rw [show m + W + 1 - W = m + 1 by omega, speedTo_succ, show speedAt xs W m = (x - y) / (W : Int) by unfold speedAt; rw [← hx.out, ← hy.out]]
        exact OwnI.snoc hown'
      have G2 := Lib.hid (gb_own (gb_alloc (gb_drew hG) (.cells #[.int .i64 ((x - y) / (W : Int))] 3)) hgrow (fun r hr => hO.row r hr))
      clear hown' hgrow hgg hgs hO hG HG hc' hc2' hc hc2 hx hy bx1 bx2 by1 by2 hsub hsz
      go_wp2
      go_roundw
      case rel => exact ⟨m + W + 1, by omega, by go_num, HS, O2, G2⟩
      case measure => simp [intOf]; omega
end Go.Proofs.Ytbeihmhiofkjlaa
