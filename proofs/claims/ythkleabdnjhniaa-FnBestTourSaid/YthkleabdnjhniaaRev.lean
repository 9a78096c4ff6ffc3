/-
  A copy of a slice of numbers; a part of it reversed in place; the reference's reversed copy.
-/
import Derived.Test.YthkleabdnjhniaaImprLaw
import Derived.Test.YthkleabdnjhniaaIntS
import Derived.Deep.RegionLaw
import Derived.Lib.SliceRun
namespace Go.Proofs.Ythkleabdnjhniaa
open Go Go.RowKit
theorem eqNil (w : World) (a : Option Addr) (n c n' c' : Nat) : (binOp .eql 33 (.slice a n c) (.slice none n' c')).run Try.prog w = .ok (.bool a.isNone) w := Lib.run_eql_slice_nil w _ _ a n c n' c' Try.underlying33
attribute [local go_sem] eqNil
set_option maxHeartbeats 1000000 in
theorem clone_s (v : Value) (os : List Int) (w : World) (hv : Rds LI w v os) (h1 : 0 < os.length) (h2 : os.length ≤ 1000) :
    Calls Try.prog 58 #[v] w fun e w' => ∃ r, e = .returned r ∧ St w w' [Own LI r os] := by
  obtain ⟨a, n, cap, rfl, hn, hm, HN, HC⟩ := LI_get hv
  obtain ⟨b, off, x, rfl, hb, -, -⟩ := HC.out 0 (by rw [HN.out]; exact h1)
  have S : St w (w.alloc (.cells #[] 3)) [Own LI (.slice (some ⟨w.heap.size, 0, none⟩) 0 0) []] := (St.refl w).ownEmpty LI
  have R : Rds LI (w.alloc (.cells #[] 3)) (.slice (some ⟨b, off, none⟩) n cap) os := hv.kept (World.grownBy_alloc _ _ _)
  have hl : ([] : List Int).length + os.length ≤ 1099511627776 := by simp; omega
  clear HC hv HN
  go_enter Try.func58, Try.ntmps58
  go_wp2_with (at_builtin; refine wpList_appR LI_info rfl _ _ rfl S os _ R rfl rfl hl ?_; intro v6 w6 S6; rw [List.nil_append] at S6; have SH := Lib.hid S6; clear S6 S R)
  go_ret
  exact ⟨_, rfl, SH.out⟩
/-- The cells of a row of the call's own. -/
theorem LI_cell {w0 w : World} {g n cap : Nat} {os : List Int} {Ls : List Asr} (S : St w0 w (Own LI (.slice (some ⟨g, 0, none⟩) n cap) os :: Ls)) (k : Nat) (hk : k < os.length) :
    w.cell? ⟨g, k, none⟩ = some (.int .i64 (os.getD k 0)) ∧ w.frozen? ⟨g, k, none⟩ = false := by
  have hc := St.ownCell S (g := g) rfl k (os.getD k 0) (by rw [List.getD_eq_getElem?_getD, List.getElem?_eq_getElem hk]; rfl) 0 _ rfl
  rw [show LI.s = 1 from rfl, Nat.mul_one, Nat.add_zero] at hc
  exact ⟨hc, St.ownFrozen S rfl k⟩
def RevQ (w0 : World) (v : Value) (os : List Int) (Ls : List Asr) (e : Ending) (w' : World) : Prop := ∃ u, e = .returned u ∧ St w0 w' (Own LI v os :: Ls)
set_option maxRecDepth 100000 in
set_option maxHeartbeats 4000000 in
theorem reverse_s (w0 : World) (g n cap i m c : Nat) (os : List Int) (Ls : List Asr) (w : World) (S : St w0 w (Own LI (.slice (some ⟨g, 0, none⟩) n cap) os :: Ls)) (hm : 0 < m) (him : i + m ≤ os.length) (hl : os.length ≤ 1000) (hc : m ≤ c) (hcm : c ≤ 9223372036854775807) :
    Calls Try.prog 66 #[.slice (some ⟨g, i, none⟩) m c] w (RevQ w0 (.slice (some ⟨g, 0, none⟩) n cap) (revAt os i (i + m - 1)) Ls) := by
  obtain ⟨M, rfl⟩ : ∃ M, m = M + 1 := ⟨m - 1, by omega⟩
  rw [show i + (M + 1) - 1 = i + M by omega]
  have hM : M ≤ 1000 := by omega
  go_enter Try.func66, Try.ntmps66
  go_wp2
  go_loopw [2, 3] (fun a b wr => ∃ t : Nat, t + t ≤ M + 1 ∧ a = .int .i64 t ∧ b = .int .i64 ((M : Int) - (t : Int)) ∧ St w0 wr (Own LI (.slice (some ⟨g, 0, none⟩) n cap) (revP os i (i + M) t) :: Ls)) (fun a _ _ => M - (intOf a).toNat)
  case atStart => exact ⟨0, by omega, rfl, by go_num, by rw [revP_zero]; exact S⟩
  case round =>
    obtain ⟨t, ht, rfl, hb, S'⟩ := hrel
    clear S
    by_cases hlt : t + t < M
    · obtain ⟨J, hJ⟩ : ∃ J : Nat, J = M - t := ⟨_, rfl⟩
      obtain rfl : u3 = .int .i64 (J : Int) := by rw [hb]; congr 1; omega
      have hlen := revP_len os i (i + M) t
      obtain ⟨c1, f1⟩ := LI_cell S' (i + t) (by omega)
      obtain ⟨c2, f2⟩ := LI_cell S' (i + J) (by omega)
      obtain ⟨A, hA⟩ : ∃ A, (revP os i (i + M) t).getD (i + t) 0 = A := ⟨_, rfl⟩
      obtain ⟨B, hB⟩ : ∃ B, (revP os i (i + M) t).getD (i + J) 0 = B := ⟨_, rfl⟩
      rw [hA] at c1
      rw [hB] at c2
      have hset := revP_set os i (i + M) t (by omega) (by omega)
      rw [show i + M - t = i + J by omega, hA, hB] at hset
      have S1 : St w0 ((wr.setCell ⟨g, i + t, none⟩ (.int .i64 B)).setCell ⟨g, i + J, none⟩ (.int .i64 A)) (Own LI (.slice (some ⟨g, 0, none⟩) n cap) (revP os i (i + M) (t + 1)) :: Ls) := by
        have := LI_set (LI_set S' (g := g) rfl (i + t) B (by omega)) (g := g) rfl (i + J) A (by rw [List.length_set]; omega)
        rw [hset] at this
        exact this
      have S2 : St w0 ((wr.setCell ⟨g, i + J, none⟩ (.int .i64 A)).setCell ⟨g, i + t, none⟩ (.int .i64 B)) (Own LI (.slice (some ⟨g, 0, none⟩) n cap) (revP os i (i + M) (t + 1)) :: Ls) := by
        have := LI_set (LI_set S' (g := g) rfl (i + J) A (by omega)) (g := g) rfl (i + t) B (by rw [List.length_set]; omega)
        rw [List.set_comm _ _ (by omega), hset] at this
        exact this
      have h1 : (t : Int) < (J : Int) := by omega
      have h2 : (t : Int) < (M : Int) + 1 := by omega
      have h3 : (J : Int) < (M : Int) + 1 := by omega
      have h4 : t < M + 1 := by omega
      have h5 : J < M + 1 := by omega
      have hne : i + t ≠ i + J := by omega
      have SH1 := Lib.hid S1
      have SH2 := Lib.hid S2
      have HJ := Lib.hid hJ
      clear S1 S2 S' hset hA hB hlen hb hJ
      go_wp2
      go_region
      all_goals
        go_wp2
        go_roundw
        case rel => exact ⟨t + 1, by omega, by go_num, (by have := HJ.out; show Value.int _ _ = Value.int _ _; congr 1; omega), by first | exact SH1.out | exact SH1.out.drew | exact SH2.out | exact SH2.out.drew⟩
        case measure => (simp [intOf]; try omega)
    · have e := revP_end os i (i + M) t (by omega)
      rw [e] at S'
      obtain rfl := hb
      have hnl : ¬ ((t : Int) < (M : Int) - (t : Int)) := by omega
      clear e
      go_wp2
      (first | go_ret | (refine bodyPost_ret (results_none rfl _ _ _) rfl ?_) | (refine bodyPost_end (results_none rfl _ _ _) rfl ?_))
      exact ⟨_, rfl, S'⟩
end Go.Proofs.Ythkleabdnjhniaa
