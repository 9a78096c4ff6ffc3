/-
  A command's line: both programs write the same.
-/
import Derived.Test.YtbhelobahfgaeaaDoorNum
import Derived.Test.YtbhelobahfgaeaaDoorQuiet
import Derived.Test.YtbhelobahfgaeaaDoorShelfI
import Derived.Test.YtbhelobahfgaeaaDoorCmdRule
import Derived.Lib.AppendIntMem
namespace Go.Proofs.YtbhelobahfgaeaaDoor
open Go Go.RowKit
set_option linter.unusedVariables false
/-- The library's table of tens, as it stands in a world. -/
def Tab (w : World) : Prop := Lib.TabIs Tryd.prog w "internal/strconv.uint64pow10" .u64 Lib.pow10Tab
theorem Tab.grow {w w' : World} (h : Tab w) (hg : w.grownBy w' none) : Tab w' := by
  have hgn : Tryd.prog.globalNamed "internal/strconv.uint64pow10" = some 2 := by kernel_rfl
  unfold Tab Lib.TabIs World.var? at h ⊢
  rw [hgn] at h ⊢
  simp only [Option.bind_some] at h ⊢
  have hlt : 2 < w.heap.size := by
    rcases Nat.lt_or_ge 2 w.heap.size with h' | h'
    · exact h'
    · rw [Array.getElem?_eq_none h'] at h; cases h
  rw [hg.block 2 hlt (by simp)]
  exact h
theorem itoa_s (n : Int) (w : World) (ht : Tab w) (hn : -1000000 ≤ n ∧ n ≤ 1000000) : Calls Tryd.prog 44 #[.int .i64 n] w fun e w' => e = .returned (.string (numB n)) ∧ w.grownBy w' none := by
  refine (Tryd.strconv_Itoa n (by omega) (by omega) w ht).mono ?_
  rintro e w' ⟨rfl, k, os, rfl⟩
  exact ⟨rfl, below_gb (Lib.below_grow _ w (Nat.le_refl _) k os)⟩
def nameL (k : Nat) : List UInt8 := match k with
  | 1 => [109, 111, 118, 101]
  | 2 => [103, 114, 105, 112]
  | 3 => [114, 101, 108, 101, 97, 115, 101]
  | 4 => [119, 97, 105, 116]
  | 5 => [114, 101, 112, 101, 97, 116]
  | 6 => [101, 110, 100]
  | _ => []
set_option maxRecDepth 20000 in
theorem name_s (k : Nat) (hk : k ≤ 6) (w : World) : Calls Tryd.prog 43 #[.int .i64 (k : Int)] w fun e w' => e = .returned (.string (bt (nameL k))) ∧ w = w' := by
  obtain rfl | rfl | rfl | rfl | rfl | rfl | rfl : k = 0 ∨ k = 1 ∨ k = 2 ∨ k = 3 ∨ k = 4 ∨ k = 5 ∨ k = 6 := by omega
  · have i0 : ∀ w, (Instr.index 74 (.agg #[.string ⟨#[]⟩, .string ⟨#[109, 111, 118, 101]⟩, .string ⟨#[103, 114, 105, 112]⟩, .string ⟨#[114, 101, 108, 101, 97, 115, 101]⟩, .string ⟨#[119, 97, 105, 116]⟩, .string ⟨#[114, 101, 112, 101, 97, 116]⟩, .string ⟨#[101, 110, 100]⟩]) (.int .i64 0)).run Tryd.prog w = .ok (.string (bt (nameL 0))) w := fun _ => by kernel_rfl
    go_enter Tryd.func43, Tryd.ntmps43
    go_wp2
    go_ret
    exact ⟨rfl, rfl⟩
  · have i0 : ∀ w, (Instr.index 74 (.agg #[.string ⟨#[]⟩, .string ⟨#[109, 111, 118, 101]⟩, .string ⟨#[103, 114, 105, 112]⟩, .string ⟨#[114, 101, 108, 101, 97, 115, 101]⟩, .string ⟨#[119, 97, 105, 116]⟩, .string ⟨#[114, 101, 112, 101, 97, 116]⟩, .string ⟨#[101, 110, 100]⟩]) (.int .i64 1)).run Tryd.prog w = .ok (.string (bt (nameL 1))) w := fun _ => by kernel_rfl
    go_enter Tryd.func43, Tryd.ntmps43
    go_wp2
    go_ret
    exact ⟨rfl, rfl⟩
  · have i0 : ∀ w, (Instr.index 74 (.agg #[.string ⟨#[]⟩, .string ⟨#[109, 111, 118, 101]⟩, .string ⟨#[103, 114, 105, 112]⟩, .string ⟨#[114, 101, 108, 101, 97, 115, 101]⟩, .string ⟨#[119, 97, 105, 116]⟩, .string ⟨#[114, 101, 112, 101, 97, 116]⟩, .string ⟨#[101, 110, 100]⟩]) (.int .i64 2)).run Tryd.prog w = .ok (.string (bt (nameL 2))) w := fun _ => by kernel_rfl
    go_enter Tryd.func43, Tryd.ntmps43
    go_wp2
    go_ret
    exact ⟨rfl, rfl⟩
  · have i0 : ∀ w, (Instr.index 74 (.agg #[.string ⟨#[]⟩, .string ⟨#[109, 111, 118, 101]⟩, .string ⟨#[103, 114, 105, 112]⟩, .string ⟨#[114, 101, 108, 101, 97, 115, 101]⟩, .string ⟨#[119, 97, 105, 116]⟩, .string ⟨#[114, 101, 112, 101, 97, 116]⟩, .string ⟨#[101, 110, 100]⟩]) (.int .i64 3)).run Tryd.prog w = .ok (.string (bt (nameL 3))) w := fun _ => by kernel_rfl
    go_enter Tryd.func43, Tryd.ntmps43
    go_wp2
    go_ret
    exact ⟨rfl, rfl⟩
  · have i0 : ∀ w, (Instr.index 74 (.agg #[.string ⟨#[]⟩, .string ⟨#[109, 111, 118, 101]⟩, .string ⟨#[103, 114, 105, 112]⟩, .string ⟨#[114, 101, 108, 101, 97, 115, 101]⟩, .string ⟨#[119, 97, 105, 116]⟩, .string ⟨#[114, 101, 112, 101, 97, 116]⟩, .string ⟨#[101, 110, 100]⟩]) (.int .i64 4)).run Tryd.prog w = .ok (.string (bt (nameL 4))) w := fun _ => by kernel_rfl
    go_enter Tryd.func43, Tryd.ntmps43
    go_wp2
    go_ret
    exact ⟨rfl, rfl⟩
  · have i0 : ∀ w, (Instr.index 74 (.agg #[.string ⟨#[]⟩, .string ⟨#[109, 111, 118, 101]⟩, .string ⟨#[103, 114, 105, 112]⟩, .string ⟨#[114, 101, 108, 101, 97, 115, 101]⟩, .string ⟨#[119, 97, 105, 116]⟩, .string ⟨#[114, 101, 112, 101, 97, 116]⟩, .string ⟨#[101, 110, 100]⟩]) (.int .i64 5)).run Tryd.prog w = .ok (.string (bt (nameL 5))) w := fun _ => by kernel_rfl
    go_enter Tryd.func43, Tryd.ntmps43
    go_wp2
    go_ret
    exact ⟨rfl, rfl⟩
  · have i0 : ∀ w, (Instr.index 74 (.agg #[.string ⟨#[]⟩, .string ⟨#[109, 111, 118, 101]⟩, .string ⟨#[103, 114, 105, 112]⟩, .string ⟨#[114, 101, 108, 101, 97, 115, 101]⟩, .string ⟨#[119, 97, 105, 116]⟩, .string ⟨#[114, 101, 112, 101, 97, 116]⟩, .string ⟨#[101, 110, 100]⟩]) (.int .i64 6)).run Tryd.prog w = .ok (.string (bt (nameL 6))) w := fun _ => by kernel_rfl
    go_enter Tryd.func43, Tryd.ntmps43
    go_wp2
    go_ret
    exact ⟨rfl, rfl⟩
/-- The line of a command. -/
def lineL (c : Cmd) : List UInt8 :=
  if c.Kind = 1 then nameL 1 ++ ([32] ++ (Lib.itoa c.A ++ ([32] ++ Lib.itoa c.B))) else if c.Kind = 4 ∨ c.Kind = 5 then nameL c.Kind.toNat ++ ([32] ++ Lib.itoa c.A) else nameL c.Kind.toNat
def lineB (c : Cmd) : ByteArray := bt (lineL c)
/-! ### The lines -/
theorem line_one (A B : Int) : bt (nameL 1) ++ ((⟨#[32]⟩ : ByteArray) ++ numB A ++ ⟨#[32]⟩ ++ numB B) = lineB ⟨1, A, B⟩ := by
  unfold lineB lineL numB
  rw [show (⟨#[32]⟩ : ByteArray) = bt [32] from rfl, bt_app, bt_app, bt_app, bt_app, if_pos rfl, List.append_assoc, List.append_assoc]
theorem line_oneS (A B : Int) : bt (nameL 1) ++ (⟨#[32]⟩ : ByteArray) ++ numB A ++ ⟨#[32]⟩ ++ numB B = lineB ⟨1, A, B⟩ := by
  rw [← line_one, ByteArray.append_assoc, ByteArray.append_assoc, ByteArray.append_assoc, ByteArray.append_assoc, ByteArray.append_assoc]
theorem line_two (k : Nat) (hk : k = 4 ∨ k = 5) (A B : Int) : bt (nameL k) ++ ((⟨#[32]⟩ : ByteArray) ++ numB A) = lineB ⟨(k : Int), A, B⟩ := by
  unfold lineB lineL numB
  rw [show (⟨#[32]⟩ : ByteArray) = bt [32] from rfl, bt_app, bt_app, if_neg (show ¬ ((k : Int) = 1) by omega), if_pos (show (k : Int) = 4 ∨ (k : Int) = 5 by omega), Int.toNat_natCast]
theorem line_twoS (k : Nat) (hk : k = 4 ∨ k = 5) (A B : Int) : bt (nameL k) ++ (⟨#[32]⟩ : ByteArray) ++ numB A = lineB ⟨(k : Int), A, B⟩ := by
  rw [← line_two k hk, ByteArray.append_assoc]
theorem line_three (k : Nat) (hk : k = 2 ∨ k = 3 ∨ k = 6) (A B : Int) : bt (nameL k) = lineB ⟨(k : Int), A, B⟩ := by
  unfold lineB lineL
  rw [if_neg (show ¬ ((k : Int) = 1) by omega), if_neg (show ¬ ((k : Int) = 4 ∨ (k : Int) = 5) by omega), Int.toNat_natCast]
theorem name_size (k : Nat) : (bt (nameL k)).size ≤ 7 := by
  rw [bt_size]
  unfold nameL
  split <;> simp
theorem num_size (n : Int) (hn : -1000000 ≤ n ∧ n ≤ 1000000) : (numB n).size ≤ 1000002 := by
  unfold numB Lib.itoa
  rw [bt_size]
  split
  · have := dec_len n.natAbs
    simp only [List.length_cons]
    omega
  · have := dec_len n.toNat
    omega
/-- The kinds of a command with numbers in range. -/
theorem cmd_cases {c : Cmd} (h : cmdB c = true) : (c.Kind = 1 ∧ (-10000 ≤ c.A ∧ c.A ≤ 10000) ∧ (-10000 ≤ c.B ∧ c.B ≤ 10000)) ∨ (∃ k : Nat, c.Kind = (k : Int) ∧ (k = 4 ∨ k = 5) ∧ (1 ≤ c.A ∧ c.A ≤ 99) ∧ c.B = 0) ∨ (∃ k : Nat, c.Kind = (k : Int) ∧ (k = 2 ∨ k = 3 ∨ k = 6) ∧ c.A = 0 ∧ c.B = 0) := by
  unfold cmdB at h
  split at h
  · rename_i h1
    unfold xyB at h
    rw [Bool.and_eq_true] at h
    exact .inl ⟨h1, inB_t.1 h.1, inB_t.1 h.2⟩
  · split at h
    · rename_i h1
      simp only [Bool.and_eq_true, beq_iff_eq] at h
      exact .inr (.inl ⟨c.Kind.toNat, by omega, by omega, inB_t.1 h.1, h.2⟩)
    · split at h
      · rename_i h1
        simp only [Bool.and_eq_true, beq_iff_eq] at h
        exact .inr (.inr ⟨c.Kind.toNat, by omega, by omega, h.1, h.2⟩)
      · cases h
set_option maxRecDepth 20000 in
set_option maxHeartbeats 1000000 in
theorem i_line (c : Cmd) (w : World) (ht : Tab w) (h : cmdB c = true) : Calls Tryd.prog 30 #[.agg #[.int .i64 c.Kind, .int .i64 c.A, .int .i64 c.B]] w fun e w' => e = .returned (.string (lineB c)) ∧ w.grownBy w' none := by
  obtain ⟨K, A, B⟩ := c
  have hc := cmd_cases h
  clear h
  dsimp only at hc ⊢
  have g0 := gb_alloc (World.grownBy.refl w none) (.cells #[.int .i64 K, .int .i64 A, .int .i64 B] 47)
  have t0 := ht.grow g0
  have e1 : (w.alloc (.cells #[.int .i64 K, .int .i64 A, .int .i64 B] 47)).cell? ⟨w.heap.size, 1, none⟩ = some (.int .i64 A) := by rw [cell_of_row _ _ _ _ _ _ (heap_alloc_new w _)]; rfl
  have e2 : (w.alloc (.cells #[.int .i64 K, .int .i64 A, .int .i64 B] 47)).cell? ⟨w.heap.size, 2, none⟩ = some (.int .i64 B) := by rw [cell_of_row _ _ _ _ _ _ (heap_alloc_new w _)]; rfl
  have d1 := qcell e1
  have d2 := qcell e2
  rcases hc with ⟨rfl, hA, hB⟩ | ⟨k, rfl, hk, hA, rfl⟩ | ⟨k, rfl, hk, rfl, rfl⟩
  · have NM := Lib.hid (show Calls Tryd.prog 43 #[.int .i64 1] _ _ from name_s 1 (by omega) (w.alloc (.cells #[.int .i64 1, .int .i64 A, .int .i64 B] 47)))
    have IA := Lib.hid (fun d os => itoa_s A (Go.Sort.grow (redrawn (w.alloc (.cells #[.int .i64 1, .int .i64 A, .int .i64 B] 47)) d) os) (t0.grow (qg _ d os)) (by omega))
    have IB := Lib.hid (fun d os => itoa_s B (Go.Sort.grow (redrawn (w.alloc (.cells #[.int .i64 1, .int .i64 A, .int .i64 B] 47)) d) os) (t0.grow (qg _ d os)) (by omega))
    have LN := Lib.hid (line_one A B)
    have z1 := name_size 1
    have z2 := num_size A (by omega)
    have z3 := num_size B (by omega)
    generalize numB A = NA at IA LN z2
    generalize numB B = NB at IB LN z3
    generalize bt (nameL 1) = N1 at NM LN z1
    go_enter Tryd.func30, Tryd.ntmps30
    go_wp2_with fail
    refine NM.out.mono ?_
    rintro e w1 ⟨rfl, rfl⟩
    go_wp2_with fail
    (refine wp_region_quiet_below (by kernel_rfl) (by kernel_rfl) ?_; (repeat (go_big_quiet_step ((first | (with_reducible exact qc (IA.out _ _)) | (with_reducible exact qc (IB.out _ _)))))); refine wpQuiet_nil ?_; intro _ hw'; obtain ⟨⟨dq, osq⟩, hw''⟩ := hw'; subst hw'')
    go_wp2
    go_ret
    exact ⟨congrArg (fun s => Ending.returned (Value.string s)) LN.out, gb_trans g0 (qg _ dq osq)⟩
  · have NM := Lib.hid (name_s k (by omega) (w.alloc (.cells #[.int .i64 (k : Int), .int .i64 A, .int .i64 0] 47)))
    have IA := Lib.hid (itoa_s A (w.alloc (.cells #[.int .i64 (k : Int), .int .i64 A, .int .i64 0] 47)) t0 (by omega))
    have LN := Lib.hid (line_two k hk A 0)
    have z1 := name_size k
    have z2 := num_size A (by omega)
    generalize numB A = NA at IA LN z2
    generalize bt (nameL k) = N1 at NM LN z1
    rcases hk with rfl | rfl
    all_goals
      go_enter Tryd.func30, Tryd.ntmps30
      go_wp2_with fail
      refine NM.out.mono ?_
      rintro e w1 ⟨rfl, rfl⟩
      go_wp2_with fail
      refine IA.out.mono ?_
      rintro e w1 ⟨rfl, g1⟩
      go_wp2
      go_ret
      exact ⟨congrArg (fun s => Ending.returned (Value.string s)) LN.out, gb_trans g0 g1⟩
  · have NM := Lib.hid (name_s k (by omega) (w.alloc (.cells #[.int .i64 (k : Int), .int .i64 0, .int .i64 0] 47)))
    have LN := Lib.hid (line_three k hk 0 0)
    generalize bt (nameL k) = N1 at NM LN
    rcases hk with rfl | rfl | rfl
    all_goals
      go_enter Tryd.func30, Tryd.ntmps30
      go_wp2_with fail
      refine NM.out.mono ?_
      rintro e w1 ⟨rfl, rfl⟩
      go_wp2
      go_ret
      exact ⟨congrArg (fun s => Ending.returned (Value.string s)) LN.out, g0⟩
/-! ### The reference's line -/
set_option maxRecDepth 20000 in
set_option maxHeartbeats 1000000 in
theorem s_line (c : Cmd) (w : World) (h : cmdB c = true) : Calls Tryd.prog 31 #[.agg #[.int .i64 c.Kind, .int .i64 c.A, .int .i64 c.B]] w fun e w' => e = .returned (.string (lineB c)) ∧ w.grownBy w' none := by
  obtain ⟨K, A, B⟩ := c
  have hc := cmd_cases h
  clear h
  dsimp only at hc ⊢
  have g0 := gb_alloc (gb_alloc (World.grownBy.refl w none) (.cells #[.int .i64 K, .int .i64 A, .int .i64 B] 47)) (.cells #[.string ⟨#[]⟩, .string ⟨#[109, 111, 118, 101]⟩, .string ⟨#[103, 114, 105, 112]⟩, .string ⟨#[114, 101, 108, 101, 97, 115, 101]⟩, .string ⟨#[119, 97, 105, 116]⟩, .string ⟨#[114, 101, 112, 101, 97, 116]⟩, .string ⟨#[101, 110, 100]⟩] 9)
  have e1 : (w.alloc (.cells #[.int .i64 K, .int .i64 A, .int .i64 B] 47)).cell? ⟨w.heap.size, 1, none⟩ = some (.int .i64 A) := by rw [cell_of_row _ _ _ _ _ _ (heap_alloc_new w _)]; rfl
  have e2 : (w.alloc (.cells #[.int .i64 K, .int .i64 A, .int .i64 B] 47)).cell? ⟨w.heap.size, 2, none⟩ = some (.int .i64 B) := by rw [cell_of_row _ _ _ _ _ _ (heap_alloc_new w _)]; rfl
  have f1 := gb_cell (gb_alloc (World.grownBy.refl _ none) (.cells #[.string ⟨#[]⟩, .string ⟨#[109, 111, 118, 101]⟩, .string ⟨#[103, 114, 105, 112]⟩, .string ⟨#[114, 101, 108, 101, 97, 115, 101]⟩, .string ⟨#[119, 97, 105, 116]⟩, .string ⟨#[114, 101, 112, 101, 97, 116]⟩, .string ⟨#[101, 110, 100]⟩] 9)) e1 (by simp)
  have f2 := gb_cell (gb_alloc (World.grownBy.refl _ none) (.cells #[.string ⟨#[]⟩, .string ⟨#[109, 111, 118, 101]⟩, .string ⟨#[103, 114, 105, 112]⟩, .string ⟨#[114, 101, 108, 101, 97, 115, 101]⟩, .string ⟨#[119, 97, 105, 116]⟩, .string ⟨#[114, 101, 112, 101, 97, 116]⟩, .string ⟨#[101, 110, 100]⟩] 9)) e2 (by simp)
  rcases hc with ⟨rfl, hA, hB⟩ | ⟨k, rfl, hk, hA, rfl⟩ | ⟨k, rfl, hk, rfl, rfl⟩
  · have IA := Lib.hid (fun W => number_s A W (by omega))
    have IB := Lib.hid (fun W => number_s B W (by omega))
    have LN := Lib.hid (line_oneS A B)
    have z1 : (⟨#[109, 111, 118, 101]⟩ : ByteArray).size = 4 := rfl
    have z2 := num_size A (by omega)
    have z3 := num_size B (by omega)
    have q1 := qcell f1
    have q2 := qcell f2
    clear e1 e2 f1 f2
    generalize numB A = NA at IA LN z2
    generalize numB B = NB at IB LN z3
    go_enter Tryd.func31, Tryd.ntmps31
    go_wp2_with fail
    (refine wp_region_quiet_below (by kernel_rfl) (by kernel_rfl) ?_; (repeat (go_big_quiet_step ((first | (with_reducible exact qc (IA.out _)) | (with_reducible exact qc (IB.out _)))))); refine wpQuiet_nil ?_; intro _ hw'; obtain ⟨⟨dq, osq⟩, hw''⟩ := hw'; subst hw'')
    go_wp2
    go_ret
    exact ⟨congrArg (fun s => Ending.returned (Value.string s)) LN.out, gb_trans g0 (qg _ dq osq)⟩
  · have IA := Lib.hid (fun W => number_s A W (by omega))
    have LN := Lib.hid (line_twoS k hk A 0)
    have z2 := num_size A (by omega)
    clear e1 e2 f1 f2
    generalize numB A = NA at IA LN z2
    rcases hk with rfl | rfl
    all_goals
      go_enter Tryd.func31, Tryd.ntmps31
      go_wp2_with fail
      refine (IA.out _).mono ?_
      rintro e w1 ⟨rfl, g1⟩
      go_wp2
      go_ret
      exact ⟨congrArg (fun s => Ending.returned (Value.string s)) LN.out, gb_trans g0 g1⟩
  · have LN := Lib.hid (line_three k hk 0 0)
    clear e1 e2 f1 f2
    rcases hk with rfl | rfl | rfl
    all_goals
      go_enter Tryd.func31, Tryd.ntmps31
      go_wp2_with fail
      go_ret
      exact ⟨congrArg (fun s => Ending.returned (Value.string s)) LN.out, g0⟩
end Go.Proofs.YtbhelobahfgaeaaDoor
