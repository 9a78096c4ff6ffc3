/-
  Slices of integers: what a slice of the call's own holds; the contracts of the laws' helpers on []int.
-/
import Derived.Test.YtbeihmhiofkjlaaBase
import Derived.Laws.AppendOwnNone
namespace Go.Proofs.Ytbeihmhiofkjlaa
open Go Go.RowKit

/-- v is a slice of integers of the call's own, in a block from H on, that holds xs. -/
def OwnI (H : Nat) (w : World) (v : Value) (xs : List Int) : Prop := w.ownsRow H 3 1 v xs.length (xs.map (Value.int .i64))
theorem OwnI.nil (H : Nat) (w : World) : OwnI H w (.slice none 0 0) [] := World.ownsRow_nil _ _ _ _
theorem OwnI.kept {H : Nat} {w w' : World} {v : Value} {xs : List Int} {row : Option Nat} (h : OwnI H w v xs) (hg : w.grownBy w' row) (hne : v.ownBlock = none ∨ v.ownBlock ≠ row) : OwnI H w' v xs := World.ownsRow.kept h hg hne
theorem OwnI.kept0 {H : Nat} {w w' : World} {v : Value} {xs : List Int} (h : OwnI H w v xs) (hg : w.grownBy w' none) : OwnI H w' v xs :=
  h.kept hg (by cases v.ownBlock <;> simp)
theorem OwnI.lt {H : Nat} {w : World} {v : Value} {xs : List Int} (h : OwnI H w v xs) : ∀ b, v.ownBlock = some b → H ≤ b ∧ b < w.heap.size := World.ownsRow.lt h
theorem OwnI.ne {H B : Nat} {w : World} {v : Value} {xs : List Int} (h : OwnI H w v xs) (hB : B < H) : v.ownBlock ≠ some B := fun e => by have := (h.lt B e).1; omega
theorem OwnI.past {H B : Nat} {w w' : World} {v : Value} {xs : List Int} (h : OwnI H w v xs) (hg : w.grownBy w' (some B)) (hB : B < H) : OwnI H w' v xs := h.kept hg (.inr (h.ne hB))
theorem OwnI.alloc {H : Nat} {w : World} {v : Value} {xs : List Int} (h : OwnI H w v xs) (o : Obj) : OwnI H (w.alloc o) v xs := h.kept0 (World.grownBy_alloc w o none)
theorem OwnI.empty (w : World) : OwnI w.heap.size (w.alloc (.cells #[] 3)) (.slice (some ⟨w.heap.size, 0, none⟩) 0 0) [] := World.ownsRow_lit w #[] 0 (Nat.le_refl _) (Nat.zero_le _) rfl
theorem OwnI.snoc {H : Nat} {w : World} {v : Value} {xs : List Int} {x : Int} (h : w.ownsRow H 3 1 v (xs.length + 1) (xs.map (Value.int .i64) ++ [.int .i64 x])) : OwnI H w v (xs ++ [x]) := by
  unfold OwnI
  rw [List.length_append, List.map_append]
  exact h
/-- What an append may have written: a row of the call's own. -/
theorem OwnI.row {H : Nat} {w : World} {v : Value} {xs : List Int} (h : OwnI H w v xs) : ∀ r, v.ownBlock = some r → H ≤ r := fun r hr => (h.lt r hr).1
theorem OwnI.mono {H H' : Nat} {w : World} {v : Value} {xs : List Int} (h : OwnI H w v xs) (hH : H' ≤ H) : OwnI H' w v xs := by
  obtain ⟨h1, h2⟩ := h
  refine ⟨h1, ?_⟩
  rcases h2 with h2 | ⟨g, cap, cur, hv, hg, r⟩
  · exact .inl h2
  · exact .inr ⟨g, cap, cur, hv, by omega, r⟩
theorem OwnI.form {H : Nat} {w : World} {v : Value} {xs : List Int} (h : OwnI H w v xs) : (v = .slice none 0 0 ∧ xs = []) ∨ ∃ g cap, v = .slice (some ⟨g, 0, none⟩) xs.length cap ∧ xs.length ≤ cap ∧ cap ≤ maxLen ∧ H ≤ g := by
  rcases h.2 with ⟨hv, hn⟩ | ⟨g, cap, cur, hv, hg, _, hn, hm, _⟩
  · exact .inl ⟨hv, List.eq_nil_of_length_eq_zero hn⟩
  · exact .inr ⟨g, cap, hv, hn, hm, hg⟩
theorem OwnI.cell {H g cap n : Nat} {w : World} {xs : List Int} (h : OwnI H w (.slice (some ⟨g, 0, none⟩) n cap) xs) (hn : n = xs.length) (j : Nat) (hj : j < xs.length) : w.cell? ⟨g, j, none⟩ = some (.int .i64 xs[j]) := by
  subst hn
  have := World.ownsRow.cellAt h j (by omega)
  rw [this, List.getElem?_map, List.getElem?_eq_getElem hj]
  rfl
theorem OwnI.ints {H : Nat} {w : World} {v : Value} {xs : List Int} (h : OwnI H w v xs) : Ints w v xs := by
  rcases h.form with ⟨rfl, rfl⟩ | ⟨g, cap, rfl, hn, hm, _⟩
  · exact ints_nil w
  · refine ⟨_, cap, rfl, hn, hm, ?_⟩
    by_cases h0 : xs = []
    · exact .inl h0
    · exact .inr ⟨g, 0, rfl, fun j hj => by rw [Nat.zero_add]; exact h.cell rfl j hj⟩
theorem Ints.keptRow {w w' : World} {v : Value} {xs : List Int} {row : Option Nat} (h : Ints w v xs) (hg : w.grownBy w' row) (hr : ∀ b, row = some b → v.ownBlock ≠ some b) : Ints w' v xs := by
  obtain ⟨a, cap, rfl, h1, h2, h3⟩ := h
  refine ⟨a, cap, rfl, h1, h2, ?_⟩
  rcases h3 with h3 | ⟨b, off, rfl, h3⟩
  · exact .inl h3
  · exact .inr ⟨b, off, rfl, fun j hj => gb_cell hg (h3 j hj) (fun e => hr b e rfl)⟩
theorem Ints.kept {w w' : World} {v : Value} {xs : List Int} (h : Ints w v xs) (hg : w.grownBy w' none) : Ints w' v xs := h.keptRow hg (by simp)
theorem Ints.blk {w : World} {v : Value} {xs : List Int} (h : Ints w v xs) (hne : xs ≠ []) : ∃ b, v.ownBlock = some b ∧ b < w.heap.size := by
  obtain ⟨a, cap, rfl, h1, h2, h3⟩ := h
  rcases h3 with h3 | ⟨b, off, rfl, h3⟩
  · exact absurd h3 hne
  · exact ⟨b, rfl, cell_lt (h3 0 (List.length_pos_iff.2 hne))⟩
/-- Behind a write into a block that came since. -/
theorem Ints.old {w w1 w' : World} {v : Value} {xs : List Int} {r : Nat} (h : Ints w v xs) (h1 : Ints w1 v xs) (hg : w1.grownBy w' (some r)) (hr : w.heap.size ≤ r) : Ints w' v xs := by
  by_cases h0 : xs = []
  · subst h0
    obtain ⟨a, cap, rfl, k1, k2, _⟩ := h1
    exact ⟨a, cap, rfl, k1, k2, .inl rfl⟩
  · obtain ⟨b, hb, hlt⟩ := h.blk h0
    exact h1.keptRow hg (fun c hc e => by rw [hb] at e; have e1 := Option.some.inj e; have e2 := Option.some.inj hc; omega)
/-- A slice of integers opened: its length under a name of its own, each element's cell on demand. -/
theorem Ints.get {w : World} {v : Value} {xs : List Int} (h : Ints w v xs) : ∃ (a : Option Addr) (n cap : Nat), v = .slice a n cap ∧ n ≤ cap ∧ n ≤ 9223372036854775807 ∧ RowKit.Hid (n = xs.length) ∧
    RowKit.Hid (∀ k, k < n → ∃ (b off : Nat) (x : Int), a = some ⟨b, off, none⟩ ∧ w.cell? ⟨b, off + k, none⟩ = some (.int .i64 x) ∧ RowKit.Hid (x = xs.getD k 0) ∧ b < w.heap.size) := by
  obtain ⟨a, cap, rfl, h1, h2, h3⟩ := h
  refine ⟨a, xs.length, cap, rfl, h1, by unfold maxLen at h2; omega, rfl, fun k hk => ?_⟩
  rcases h3 with h3 | ⟨b, off, ha, h3⟩
  · subst h3; simp at hk
  · have hc := h3 k hk
    refine ⟨b, off, xs[k], ha, hc, ?_, cell_lt hc⟩
    show xs[k] = xs.getD k 0
    simp [hk]
theorem intInfo : (Try.prog.info? 3).map (fun i => (i.zero, i.size, i.bytes)) = some (some (.int .i64 0), 1, 8) := by kernel_rfl

set_option maxHeartbeats 400000 in
theorem eqIntS_t (v u : Value) (xs : List Int) (w : World) (hv : Ints w v xs) (hu : Ints w u xs) :
    Calls Try.prog 27 #[v, u] w fun e w' => e = .returned (.bool true) ∧ w.grownBy w' none := by
  obtain ⟨a, cap, rfl, h1, h2, h3⟩ := hv
  obtain ⟨a', cap', rfl, h1', h2', h3'⟩ := hu
  obtain ⟨n, hn⟩ : ∃ n, n = xs.length := ⟨_, rfl⟩
  have hm : n ≤ 9223372036854775807 := by unfold maxLen at h2; omega
  have hcell : ∀ k, k < n → ∃ (b off b' off' : Nat) (x : Int), a = some ⟨b, off, none⟩ ∧ a' = some ⟨b', off', none⟩ ∧ w.cell? ⟨b, off + k, none⟩ = some (.int .i64 x) ∧ w.cell? ⟨b', off' + k, none⟩ = some (.int .i64 x) := by
    intro k hk
    rcases h3 with h3 | ⟨b, off, ha, h3⟩
    · subst h3; simp at hn; omega
    rcases h3' with h3' | ⟨b', off', ha', h3'⟩
    · subst h3'; simp at hn; omega
    exact ⟨b, off, b', off', _, ha, ha', h3 k (by omega), h3' k (by omega)⟩
  rw [← hn]
  rw [← hn] at h1 h1'
  have HC := Lib.hid hcell
  clear hcell h3 h3' hn
  go_enter Try.func27, Try.ntmps27
  go_wp2
  go_loopw [5] (fun i wr => ∃ k m : Nat, k ≤ n ∧ i = .int .i64 k ∧ wr = w.drewN m) (fun i _ => n - (intOf i).toNat)
  case atStart => exact ⟨0, 0, by omega, rfl, rfl⟩
  case round =>
    obtain ⟨k, m, hk, rfl, rfl⟩ := hrel
    by_cases hlt : k < n
    · obtain ⟨b, off, b', off', x, rfl, rfl, c1, c2⟩ := HC.out k hlt
      go_wp2
      go_quiet (fail)
      go_wp2
      go_roundw
      case rel => exact ⟨k + 1, _, by omega, by go_num, rfl⟩
      case measure => simp [intOf]; omega
    · go_wp2
      go_ret
      exact ⟨rfl, gb_drewN (World.grownBy.refl _ _) m⟩

theorem fill_set (xs : List Int) (k n : Nat) (hn : n = xs.length) (hk : k < n) (x : Int) (hx : x = xs.getD k 0) :
    ((xs.take k ++ List.replicate (n - k) 0).map (Value.int .i64)).set k (.int .i64 x) = (xs.take (k + 1) ++ List.replicate (n - (k + 1)) 0).map (Value.int .i64) := by
  rw [← List.map_set]
  congr 1
  subst hn
  rw [List.set_append_right _ _ (by simp [List.length_take]; omega)]
  have h0 : k - (List.take k xs).length = 0 := by rw [List.length_take]; omega
  rw [h0, show xs.length - k = (xs.length - (k + 1)) + 1 by omega, List.replicate_succ, List.set_cons_zero, List.take_succ_eq_append_getElem hk, hx, show xs.getD k 0 = xs[k] by simp [hk], List.append_assoc]
  rfl
theorem fill_at (xs : List Int) (k n : Nat) (hn : n = xs.length) (hk : k < n) : ((xs.take k ++ List.replicate (n - k) 0).map (Value.int .i64))[k]? = some (.int .i64 0) := by
  rw [List.getElem?_map, List.getElem?_append_right (by simp [List.length_take]; omega)]
  have h0 : k - (List.take k xs).length = 0 := by rw [List.length_take]; omega
  rw [h0, List.getElem?_replicate, if_pos (by omega)]
  rfl
set_option maxHeartbeats 400000 in
/-- toIntS: a copy. -/
theorem toIntS_any (v : Value) (xs : List Int) (w : World) (hv : Ints w v xs) (hn : xs.length ≤ 1099511627776) :
    Calls Try.prog 25 #[v] w fun e w' => ∃ u, e = .returned u ∧ OwnI w.heap.size w' u xs ∧ w.grownBy w' none := by
  obtain ⟨i0, hi, hz0, hz1, hz2⟩ := info_parts intInfo
  obtain ⟨a, n, cap, rfl, h1, hm, HN, HC⟩ := hv.get
  have hn' : n ≤ 1099511627776 := by rw [HN.out]; exact hn
  clear hv hn
  have fin : ∀ wr : World, wr.ownsRow w.heap.size 3 1 (.slice (some ⟨w.heap.size, 0, none⟩) n n) n ((xs.take n ++ List.replicate (n - n) 0).map (Value.int .i64)) → OwnI w.heap.size wr (.slice (some ⟨w.heap.size, 0, none⟩) n n) xs := by
    intro wr h
    unfold OwnI
    rw [Nat.sub_self, List.replicate_zero, List.append_nil, HN.out, List.take_length] at h
    rw [HN.out]
    exact h
  have FIN := Lib.hid fin
  clear fin
  go_enter Try.func25, Try.ntmps25
  go_wp2_with (at_make; refine wpList_make_full _ rfl _ _ 32 rfl w.heap.size 3 i0 (.int .i64 0) 1 Try.underlying32 hi hz0 hz1 .i64 .i64 _ _ n rfl rfl rfl rfl (by rw [hz2]; omega) (by unfold maxLen; omega) (Nat.le_refl _) ?_; intro w1 hown hgrow)
  go_loopw [4] (fun i wr => ∃ k : Nat, k ≤ n ∧ i = .int .i64 k ∧ wr.ownsRow w.heap.size 3 1 (.slice (some ⟨w.heap.size, 0, none⟩) n n) n ((xs.take k ++ List.replicate (n - k) 0).map (Value.int .i64)) ∧ w.grownBy wr none) (fun i _ => n - (intOf i).toNat)
  case atStart =>
    refine ⟨0, by omega, rfl, ?_, hgrow⟩
    rw [Nat.mul_one, show (Value.int .i64 0).cells = #[.int .i64 0] from rfl, toList_madeCells_one] at hown
    simpa using hown
  case round =>
    obtain ⟨k, hk, rfl, hown', hg⟩ := hrel
    clear hown hgrow
    by_cases hlt : k < n
    · obtain ⟨b, off, x, rfl, hc, hx, _⟩ := HC.out k hlt
      have hc' := gb_cell hg hc (by simp)
      have hd : wr.cell? ⟨w.heap.size, k, none⟩ = some (.int .i64 0) := by rw [hown'.cellAt k (by omega)]; exact fill_at xs k n HN.out hlt
      have hf := hown'.frozenAt k
      have hst := hown'.stored k (.int .i64 x)
      rw [fill_set xs k n HN.out hlt x hx.out] at hst
      have HST := Lib.hid hst
      have HG := Lib.hid hg
      clear hst hown' hg hc hx
      go_wp2
      go_roundw
      case rel => exact ⟨k + 1, by omega, by go_num, HST.out.1, gb_new (gb_after (gb_any HG.out (some w.heap.size)) HST.out.2 (fun b hb => .inr hb)) (by simp)⟩
      case measure => simp [intOf]; omega
    · have hkn : k = n := by omega
      have hfin := FIN.out wr (by rw [← hkn] at hown' ⊢; exact hown')
      have HF := Lib.hid hfin
      have HG := Lib.hid hg
      clear hfin hown' hg hkn
      go_wp2
      go_ret
      exact ⟨_, rfl, HF.out, HG.out⟩
/-- k0, k0 + 1, .. -/
def marks (k0 : Int) (n : Nat) : List Int := (List.range n).map fun (j : Nat) => k0 + (j : Int)
theorem marks_len (k0 : Int) (n : Nat) : (marks k0 n).length = n := by simp [marks]
theorem marks_succ (k0 : Int) (n : Nat) : marks k0 (n + 1) = marks k0 n ++ [k0 + (n : Int)] := by simp [marks, List.range_succ]
theorem marks_at (k0 : Int) (n j : Nat) (hj : j < n) : (marks k0 n).getD j 0 = k0 + (j : Int) := by simp [marks, hj]
theorem mark_set (xs : List Int) (k0 : Int) (k : Nat) (hk : k < xs.length) :
    ((marks k0 k ++ xs.drop k).map (Value.int .i64)).set k (.int .i64 (k0 + (k : Int))) = (marks k0 (k + 1) ++ xs.drop (k + 1)).map (Value.int .i64) := by
  rw [← List.map_set]
  congr 1
  rw [List.set_append_right _ _ (by rw [marks_len]; omega), marks_len, Nat.sub_self, List.drop_eq_getElem_cons hk, List.set_cons_zero, marks_succ]
  simp
theorem mark_at (xs : List Int) (k0 : Int) (k : Nat) (hk : k < xs.length) : ((marks k0 k ++ xs.drop k).map (Value.int .i64))[k]? = some (.int .i64 (xs.getD k 0)) := by
  rw [List.getElem?_map, List.getElem?_append_right (by rw [marks_len]; omega), marks_len, Nat.sub_self, List.drop_eq_getElem_cons hk]
  simp [List.getElem?_eq_getElem hk]
set_option maxHeartbeats 400000 in
/-- markIntS: the slice now holds k, k + 1, .. -/
theorem markIntS_any (H : Nat) (v : Value) (xs : List Int) (k0 : Int) (w : World) (hv : OwnI H w v xs) (hk0 : 0 ≤ k0) (hk1 : k0 ≤ 1099511627776) (hn : xs.length ≤ 1099511627776) :
    Calls Try.prog 32 #[v, .int .i64 k0] w fun e w' => e = .returned (.int .i64 (k0 + (xs.length : Int))) ∧ OwnI H w' v (marks k0 xs.length) ∧ w.grownBy w' v.ownBlock := by
  rcases hv.form with ⟨rfl, rfl⟩ | ⟨g, cap, rfl, hnc, hcm, hg⟩
  · go_enter Try.func32, Try.ntmps32
    go_wp2
    refine wp_loop_rounds 1 ?_
    rw [rounds_succ]
    go_wp2
    go_ret
    exact ⟨by simp, OwnI.nil _ _, World.grownBy.refl _ _⟩
  · obtain ⟨n, HN⟩ : ∃ n, RowKit.Hid (n = xs.length) := ⟨_, rfl⟩
    have hv' : w.ownsRow H 3 1 (.slice (some ⟨g, 0, none⟩) n cap) n ((marks k0 0 ++ xs.drop 0).map (Value.int .i64)) := by
      have := hv
      unfold OwnI at this
      rw [← HN.out] at this
      exact this
    have hnn : n ≤ 1099511627776 := by rw [HN.out]; exact hn
    have fin : ∀ wr : World, wr.ownsRow H 3 1 (.slice (some ⟨g, 0, none⟩) n cap) n ((marks k0 n ++ xs.drop n).map (Value.int .i64)) → OwnI H wr (.slice (some ⟨g, 0, none⟩) xs.length cap) (marks k0 xs.length) := by
      intro wr h
      unfold OwnI
      rw [marks_len]
      rw [HN.out, List.drop_length, List.append_nil] at h
      exact h
    have FIN := Lib.hid fin
    clear fin hv hn hnc hcm
    rw [← HN.out] at FIN ⊢
    have HV := Lib.hid hv'
    clear hv'
    go_enter Try.func32, Try.ntmps32
    go_wp2
    go_loopw [1, 5] (fun q i wr => ∃ k : Nat, k ≤ n ∧ i = .int .i64 k ∧ q = .int .i64 (k0 + k) ∧ wr.ownsRow H 3 1 (.slice (some ⟨g, 0, none⟩) n cap) n ((marks k0 k ++ xs.drop k).map (Value.int .i64)) ∧ w.grownBy wr (some g)) (fun _ i _ => n - (intOf i).toNat)
    case atStart => exact ⟨0, by omega, rfl, by simp, HV.out, World.grownBy.refl _ _⟩
    case round =>
      obtain ⟨k, hk, rfl, rfl, hown, hg'⟩ := hrel
      by_cases hlt : k < n
      · have hlt' : k < xs.length := by rw [← HN.out]; exact hlt
        obtain ⟨y, hy⟩ : ∃ y, wr.cell? ⟨g, k, none⟩ = some (.int .i64 y) := ⟨_, by rw [hown.cellAt k (by omega)]; exact mark_at xs k0 k hlt'⟩
        have hf := hown.frozenAt k
        have hst := hown.stored k (.int .i64 (k0 + (k : Int)))
        rw [mark_set xs k0 k hlt'] at hst
        have HST := Lib.hid hst
        have HG := Lib.hid hg'
        clear hst hown hg' hlt'
        go_wp2
        go_roundw
        case rel => exact ⟨k + 1, by omega, by go_num, by go_num, HST.out.1, gb_trans HG.out HST.out.2⟩
        case measure => simp [intOf]; omega
      · have hkn : k = n := by omega
        have hfin := FIN.out wr (by rw [← hkn] at hown ⊢; exact hown)
        have HF := Lib.hid hfin
        have HG := Lib.hid hg'
        have hq : k0 + (k : Int) = k0 + (n : Int) := by omega
        have HQ := Lib.hid hq
        clear hfin hown hg' hkn hq
        go_wp2
        go_ret
        exact ⟨by rw [← HQ.out]; rfl, HF.out, HG.out⟩
set_option maxHeartbeats 400000 in
/-- heldIntS: the slice holds k, k + 1, .. -/
theorem heldIntS_any (v : Value) (n : Nat) (k0 : Int) (w : World) (hv : Ints w v (marks k0 n)) (hk0 : 0 ≤ k0) (hk1 : k0 ≤ 1099511627776) (hn : n ≤ 1099511627776) :
    Calls Try.prog 33 #[v, .int .i64 k0] w fun e w' => e = .returned (.int .i64 (k0 + (n : Int))) ∧ w.grownBy w' none := by
  obtain ⟨a, n', cap, rfl, h1, hm, HN, HC⟩ := hv.get
  have hnn : n = n' := by rw [HN.out, marks_len]
  subst hnn
  clear HN hv
  go_enter Try.func33, Try.ntmps33
  go_wp2
  go_loop [1, 5] (fun q i => ∃ k : Nat, k ≤ n ∧ i = .int .i64 k ∧ q = .int .i64 (k0 + k)) (fun _ i => n - (intOf i).toNat)
  case atStart => exact ⟨0, by omega, rfl, by simp⟩
  case round =>
    obtain ⟨k, hk, rfl, rfl⟩ := hrel
    by_cases hlt : k < n
    · obtain ⟨b, off, x, rfl, hc, hx, _⟩ := HC.out k hlt
      have hxk : x = k0 + (k : Int) := by rw [hx.out]; exact marks_at k0 n k hlt
      subst hxk
      clear hx
      go_wp2
      go_round
      case rel => exact ⟨k + 1, by omega, by go_num, by go_num⟩
      case measure => simp [intOf]; omega
    · have hkn : k = n := by omega
      subst hkn
      go_wp2
      go_ret
      exact ⟨rfl, World.grownBy.refl _ _⟩
end Go.Proofs.Ytbeihmhiofkjlaa
