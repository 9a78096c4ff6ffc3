/-
  TourLength: both programs give the same number; what an order is.
-/
import Derived.Test.YthkleabdnjhniaaStops
import Derived.Test.YthkleabdnjhniaaIntS
namespace Go.Proofs.Ythkleabdnjhniaa
open Go Go.RowKit
/-- The step between two points. -/
def stp (p q : Pt) : Int := max (max (p.X - q.X) (q.X - p.X)) (max (p.Y - q.Y) (q.Y - p.Y))
def ptOk (p : Pt) : Prop := (-10000 ≤ p.X ∧ p.X ≤ 10000) ∧ (-10000 ≤ p.Y ∧ p.Y ≤ 10000)
theorem stp_bd {p q : Pt} (hp : ptOk p) (hq : ptOk q) : 0 ≤ stp p q ∧ stp p q ≤ 20000 := by
  obtain ⟨⟨a, b⟩, c, d⟩ := hp
  obtain ⟨⟨e, f⟩, g, h⟩ := hq
  unfold stp
  omega
theorem mx_if (a b : Int) : (if a < b then b else a) = max a b := by split <;> omega
theorem run_max_int4 {P : Program} (w : World) (ts : Array TypeId) (t : TypeId) (x y z u : Int) : (Builtin.max_ ts t #[.int .i64 x, .int .i64 y, .int .i64 z, .int .i64 u]).run P w = .ok (.int .i64 (max (max (max x y) z) u)) w := by
  simp [Builtin.max_, Builtin.max2, mx_if]
attribute [local go_sem] run_max_int4
set_option maxHeartbeats 1000000 in
theorem i_step (p q : Pt) (w : World) (hp : ptOk p) (hq : ptOk q) : Calls Try.prog 55 #[.agg #[.int .i64 p.X, .int .i64 p.Y], .agg #[.int .i64 q.X, .int .i64 q.Y]] w fun e w' => e = .returned (.int .i64 (stp p q)) ∧ w.grownBy w' none := by
  obtain ⟨x, y⟩ := p
  obtain ⟨u, v⟩ := q
  obtain ⟨⟨h1, h2⟩, h3, h4⟩ := hp
  obtain ⟨⟨h5, h6⟩, h7, h8⟩ := hq
  dsimp only at *
  go_enter Try.func55, Try.ntmps55
  go_wp2
  go_ret
  refine ⟨?_, gb_alloc (gb_alloc (World.grownBy.refl _ _) _) _⟩
  show Ending.returned (Value.int _ _) = _
  congr 2
  unfold stp
  dsimp only
  omega
set_option maxHeartbeats 1000000 in
theorem s_step (p q : Pt) (w : World) (hp : ptOk p) (hq : ptOk q) : Calls Try.prog 53 #[.agg #[.int .i64 p.X, .int .i64 p.Y], .agg #[.int .i64 q.X, .int .i64 q.Y]] w fun e w' => e = .returned (.int .i64 (stp p q)) ∧ w.grownBy w' none := by
  obtain ⟨x, y⟩ := p
  obtain ⟨u, v⟩ := q
  obtain ⟨⟨h1, h2⟩, h3, h4⟩ := hp
  obtain ⟨⟨h5, h6⟩, h7, h8⟩ := hq
  dsimp only at *
  go_enter Try.func53, Try.ntmps53
  go_wp2
  all_goals
    go_ret
    refine ⟨?_, gb_alloc (gb_alloc (World.grownBy.refl _ _) _) _⟩
    show Ending.returned (Value.int _ _) = _
    congr 2
    unfold stp
    dsimp only
    omega

/-- The length of a tour through places of the list. -/
def lenTo (xs : List Pt) (os : List Int) : Nat → Int
  | 0 => 0
  | k + 1 => lenTo xs os k + stp (xs.getD (os.getD k 0).toNat ⟨0, 0⟩) (xs.getD (os.getD (k + 1) 0).toNat ⟨0, 0⟩)
def tourL (xs : List Pt) (os : List Int) : Int := lenTo xs os (os.length - 1)
/-- All are places of a list of n. -/
def inN (n : Nat) (os : List Int) : Prop := ∀ a ∈ os, 0 ≤ a ∧ a ≤ (n : Int) - 1
theorem pt_at {xs : List Pt} (h : ptsB xs = true) {k : Nat} {p : Pt} (hp : xs[k]? = some p) : ptOk p := ptB_bd (ptsB_at h hp)
theorem pt_getD {xs : List Pt} (h : ptsB xs = true) (k : Nat) : ptOk (xs.getD k ⟨0, 0⟩) := by
  rw [List.getD_eq_getElem?_getD]
  cases hk : xs[k]? with
  | none => unfold ptOk; simp
  | some p => exact pt_at h hk
theorem lenTo_bd {xs : List Pt} (h : ptsB xs = true) (os : List Int) : ∀ k, 0 ≤ lenTo xs os k ∧ lenTo xs os k ≤ 20000 * (k : Int)
  | 0 => by simp [lenTo]
  | k + 1 => by
    have h1 := lenTo_bd h os k
    have h2 := stp_bd (pt_getD h (os.getD k 0).toNat) (pt_getD h (os.getD (k + 1) 0).toNat)
    unfold lenTo
    omega
theorem rds_ints {w : World} {v : Value} {os : List Int} (h : Rds LI w v os) : ∃ (a : Option Addr) (n cap : Nat), v = .slice a n cap ∧ n ≤ cap ∧ cap ≤ 9223372036854775807 ∧ RowKit.Hid (n = os.length) ∧
    RowKit.Hid (∀ k, k < n → ∃ (b off : Nat), a = some ⟨b, off, none⟩ ∧ b < w.heap.size ∧ w.cell? ⟨b, off + k, none⟩ = some (.int .i64 (os.getD k 0))) := by
  obtain ⟨a, n, cap, hv, h1, h2, HN, HC⟩ := LI_get h
  refine ⟨a, n, cap, hv, h1, h2, HN, fun k hk => ?_⟩
  obtain ⟨b, off, x, ha, hb, hx, hc⟩ := HC.out k hk
  refine ⟨b, off, ha, hb, ?_⟩
  rw [List.getD_eq_getElem?_getD, hx.out]
  exact hc
set_option maxHeartbeats 4000000 in
theorem i_len (v u : Value) (xs : List Pt) (os : List Int) (w : World) (hv : Rds LPt w v xs) (hu : Rds LI w u os) (hp : ptsB xs = true) (ho : inN xs.length os) (hl : os.length ≤ 1000) :
    Calls Try.prog 51 #[v, u] w fun e w' => e = .returned (.int .i64 (tourL xs os)) ∧ w.grownBy w' none := by
  obtain ⟨a, n, cap, rfl, h1, hm, HN, HC⟩ := LPt_get hv
  obtain ⟨a', m, cap', rfl, h1', hm', HN', HC'⟩ := LI_get hu
  have hl' : m ≤ 1000 := by rw [HN'.out]; exact hl
  have HP := Lib.hid hp
  have HO := Lib.hid ho
  clear hp ho hl
  go_enter Try.func51, Try.ntmps51
  go_wp2
  go_loopw [5, 6] (fun s i wr => ∃ (k : Nat) (M : Int), (k < m ∨ k = 0) ∧ i = .int .i64 ((k : Int) + 1) ∧ s = .int .i64 M ∧ 0 ≤ M ∧ M ≤ 20000 * (k : Int) ∧ RowKit.Hid (M = lenTo xs os k) ∧ w.grownBy wr none) (fun _ i _ => m - (intOf i).toNat)
  case atStart => exact ⟨0, 0, by omega, by simp, rfl, by omega, by simp, rfl, World.grownBy.refl _ _⟩
  case round =>
    obtain ⟨k, M, hk, rfl, rfl, hM0, hM1, HM, hg⟩ := hrel
    by_cases hlt : k + 1 < m
    rotate_left
    · have e : RowKit.Hid (M = tourL xs os) := by
        have := HM.out
        have hkk : k = os.length - 1 := by have := HN'.out; omega
        unfold tourL
        rw [← hkk]
        exact this
      go_wp2
      go_ret
      exact ⟨by rw [← e.out]; rfl, hg⟩
    obtain ⟨b, off, x, rfl, hb, hx, hc⟩ := HC'.out k (by omega)
    obtain ⟨b2, off2, y, hab, hb2, hy, hd⟩ := HC'.out (k + 1) hlt
    obtain ⟨rfl, rfl⟩ : b = b2 ∧ off = off2 := by simpa using hab
    obtain ⟨x0, x1⟩ := HO.out x (List.mem_of_getElem? hx.out)
    obtain ⟨y0, y1⟩ := HO.out y (List.mem_of_getElem? hy.out)
    obtain ⟨X, rfl⟩ := Int.eq_ofNat_of_zero_le x0
    obtain ⟨Y, rfl⟩ := Int.eq_ofNat_of_zero_le y0
    have hNe := HN.out
    obtain ⟨c, coff, p, rfl, hcb, hpx, p0, p1⟩ := HC.out X (by omega)
    obtain ⟨c2, coff2, q, hac, hcb2, hqx, q0, q1⟩ := HC.out Y (by omega)
    obtain ⟨rfl, rfl⟩ : c = c2 ∧ coff = coff2 := by simpa using hac
    have okp := Lib.hid (pt_at HP.out hpx.out)
    have okq := Lib.hid (pt_at HP.out hqx.out)
    have sb := stp_bd okp.out okq.out
    obtain ⟨S, hS⟩ : ∃ S, S = stp p q := ⟨_, rfl⟩
    have HS := Lib.hid hS
    rw [← hS] at sb
    obtain ⟨sb0, sb1⟩ := sb
    have HM2 : RowKit.Hid (M + S = lenTo xs os (k + 1)) := by
      show _ = _
      rw [lenTo, ← HM.out, hS, List.getD_eq_getElem?_getD, List.getD_eq_getElem?_getD, List.getD_eq_getElem?_getD, List.getD_eq_getElem?_getD, hx.out, hy.out]
      simp only [Option.getD_some, Int.toNat_natCast]
      rw [hpx.out, hqx.out]
      rfl
    have hc' := gb_cell hg hc (by simp)
    have hd' := gb_cell hg hd (by simp)
    have p0' := gb_cell hg p0 (by simp)
    have p1' := gb_cell hg p1 (by simp)
    have q0' := gb_cell hg q0 (by simp)
    have q1' := gb_cell hg q1 (by simp)
    have HG := Lib.hid hg
    have i0 : (0 : Int) ≤ (k : Int) := by omega
    have i1 : (k : Int) < (m : Int) := by omega
    have i2 : (0 : Int) ≤ (k : Int) + 1 := by omega
    have i3 : (k : Int) + 1 < (m : Int) := by omega
    have i4 : (0 : Int) ≤ (X : Int) := by omega
    have i5 : (X : Int) < (n : Int) := by omega
    have i6 : (0 : Int) ≤ (Y : Int) := by omega
    have i7 : (Y : Int) < (n : Int) := by omega
    have i8 : IntKind.i64.wrap ((k : Int) + 1 - 1) = (k : Int) := by rw [IntWalk.i64_in _ (by omega)]; omega
    have i9 : ((k : Int) + 1).toNat = k + 1 := by omega
    have i10 : IntKind.i64.wrap (k : Int) = (k : Int) := IntWalk.i64_in _ (by omega)
    clear hab hac hc hd p0 p1 q0 q1 hx hy hpx hqx hg HM hS hNe
    go_wp2
    go_region_held3 (fun w' => w'.cell? ⟨b, off + k, none⟩ = some (.int .i64 (X : Int)) ∧ w'.cell? ⟨b, off + (k + 1), none⟩ = some (.int .i64 (Y : Int)) ∧ w'.cell? ⟨c, coff + X * 2, none⟩ = some (.int .i64 p.X) ∧ w'.cell? ⟨c, coff + X * 2 + 1, none⟩ = some (.int .i64 p.Y) ∧ w'.cell? ⟨c, coff + Y * 2, none⟩ = some (.int .i64 q.X) ∧ w'.cell? ⟨c, coff + Y * 2 + 1, none⟩ = some (.int .i64 q.Y))
      (first | go_keep | (go_split_ands; refine ⟨?_, ?_, ?_, ?_, ?_, ?_⟩ <;> exact gb_cell g2 (by assumption) (by simp)))
      ((go_at_call 55; refine (i_step p q _ okp.out okq.out).mono ?_; rintro e w2 ⟨rfl, g2⟩))
    rw [← HS.out]
    have G2 := gb_trans (gb_drew HG.out) g2
    clear g2 hc' hd' p0' p1' q0' q1'
    go_wp2
    go_roundw
    case rel => exact ⟨k + 1, M + S, by omega, by go_num, by rw [IntWalk.i64_in _ (by omega)], by omega, by omega, HM2, G2⟩
    case measure => simp [intOf]; omega
set_option maxHeartbeats 4000000 in
theorem s_len (v u : Value) (xs : List Pt) (os : List Int) (w : World) (hv : Rds LPt w v xs) (hu : Rds LI w u os) (hp : ptsB xs = true) (ho : inN xs.length os) (hl : os.length ≤ 1000) :
    Calls Try.prog 49 #[v, u] w fun e w' => e = .returned (.int .i64 (tourL xs os)) ∧ w.grownBy w' none := by
  obtain ⟨a, n, cap, rfl, h1, hm, HN, HC⟩ := LPt_get hv
  obtain ⟨a', m, cap', rfl, h1', hm', HN', HC'⟩ := LI_get hu
  have hl' : m ≤ 1000 := by rw [HN'.out]; exact hl
  have HP := Lib.hid hp
  have HO := Lib.hid ho
  clear hp ho hl
  go_enter Try.func49, Try.ntmps49
  go_wp2
  go_loopw [5, 6] (fun s i wr => ∃ (k : Nat) (M : Int), (k < m ∨ k = 0) ∧ i = .int .i64 (k : Int) ∧ s = .int .i64 M ∧ 0 ≤ M ∧ M ≤ 20000 * (k : Int) ∧ RowKit.Hid (M = lenTo xs os k) ∧ w.grownBy wr none) (fun _ i _ => m - (intOf i).toNat)
  case atStart => exact ⟨0, 0, by omega, rfl, rfl, by omega, by simp, rfl, World.grownBy.refl _ _⟩
  case round =>
    obtain ⟨k, M, hk, rfl, rfl, hM0, hM1, HM, hg⟩ := hrel
    by_cases hlt : k + 1 < m
    rotate_left
    · have e : RowKit.Hid (M = tourL xs os) := by
        have := HM.out
        have hkk : k = os.length - 1 := by have := HN'.out; omega
        unfold tourL
        rw [← hkk]
        exact this
      go_wp2
      go_ret
      exact ⟨by rw [← e.out]; rfl, hg⟩
    obtain ⟨b, off, x, rfl, hb, hx, hc⟩ := HC'.out k (by omega)
    obtain ⟨b2, off2, y, hab, hb2, hy, hd⟩ := HC'.out (k + 1) hlt
    obtain ⟨rfl, rfl⟩ : b = b2 ∧ off = off2 := by simpa using hab
    obtain ⟨x0, x1⟩ := HO.out x (List.mem_of_getElem? hx.out)
    obtain ⟨y0, y1⟩ := HO.out y (List.mem_of_getElem? hy.out)
    obtain ⟨X, rfl⟩ := Int.eq_ofNat_of_zero_le x0
    obtain ⟨Y, rfl⟩ := Int.eq_ofNat_of_zero_le y0
    have hNe := HN.out
    obtain ⟨c, coff, p, rfl, hcb, hpx, p0, p1⟩ := HC.out X (by omega)
    obtain ⟨c2, coff2, q, hac, hcb2, hqx, q0, q1⟩ := HC.out Y (by omega)
    obtain ⟨rfl, rfl⟩ : c = c2 ∧ coff = coff2 := by simpa using hac
    have okp := Lib.hid (pt_at HP.out hpx.out)
    have okq := Lib.hid (pt_at HP.out hqx.out)
    have sb := stp_bd okp.out okq.out
    obtain ⟨S, hS⟩ : ∃ S, S = stp p q := ⟨_, rfl⟩
    have HS := Lib.hid hS
    rw [← hS] at sb
    obtain ⟨sb0, sb1⟩ := sb
    have HM2 : RowKit.Hid (M + S = lenTo xs os (k + 1)) := by
      show _ = _
      rw [lenTo, ← HM.out, hS, List.getD_eq_getElem?_getD, List.getD_eq_getElem?_getD, List.getD_eq_getElem?_getD, List.getD_eq_getElem?_getD, hx.out, hy.out]
      simp only [Option.getD_some, Int.toNat_natCast]
      rw [hpx.out, hqx.out]
      rfl
    have hc' := gb_cell hg hc (by simp)
    have hd' := gb_cell hg hd (by simp)
    have p0' := gb_cell hg p0 (by simp)
    have p1' := gb_cell hg p1 (by simp)
    have q0' := gb_cell hg q0 (by simp)
    have q1' := gb_cell hg q1 (by simp)
    have HG := Lib.hid hg
    have i0 : (0 : Int) ≤ (k : Int) := by omega
    have i1 : (k : Int) < (m : Int) := by omega
    have i2 : (0 : Int) ≤ (k : Int) + 1 := by omega
    have i3 : (k : Int) + 1 < (m : Int) := by omega
    have i4 : (0 : Int) ≤ (X : Int) := by omega
    have i5 : (X : Int) < (n : Int) := by omega
    have i6 : (0 : Int) ≤ (Y : Int) := by omega
    have i7 : (Y : Int) < (n : Int) := by omega
    have i8 : IntKind.i64.wrap ((k : Int) + 1) = (k : Int) + 1 := IntWalk.i64_in _ (by omega)
    have i9 : ((k : Int) + 1).toNat = k + 1 := by omega
    have i10 : IntKind.i64.wrap (k : Int) = (k : Int) := IntWalk.i64_in _ (by omega)
    clear hab hac hc hd p0 p1 q0 q1 hx hy hpx hqx hg HM hS hNe
    go_wp2
    go_region_held3 (fun w' => w'.cell? ⟨b, off + k, none⟩ = some (.int .i64 (X : Int)) ∧ w'.cell? ⟨b, off + (k + 1), none⟩ = some (.int .i64 (Y : Int)) ∧ w'.cell? ⟨c, coff + X * 2, none⟩ = some (.int .i64 p.X) ∧ w'.cell? ⟨c, coff + X * 2 + 1, none⟩ = some (.int .i64 p.Y) ∧ w'.cell? ⟨c, coff + Y * 2, none⟩ = some (.int .i64 q.X) ∧ w'.cell? ⟨c, coff + Y * 2 + 1, none⟩ = some (.int .i64 q.Y))
      (first | go_keep | (go_split_ands; refine ⟨?_, ?_, ?_, ?_, ?_, ?_⟩ <;> exact gb_cell g2 (by assumption) (by simp)))
      ((go_at_call 53; refine (s_step p q _ okp.out okq.out).mono ?_; rintro e w2 ⟨rfl, g2⟩))
    rw [← HS.out]
    have G2 := gb_trans (gb_drew HG.out) g2
    clear g2 hc' hd' p0' p1' q0' q1'
    go_wp2
    go_roundw
    case rel => exact ⟨k + 1, M + S, by omega, by go_num, by rw [IntWalk.i64_in _ (by omega)], by omega, by omega, HM2, G2⟩
    case measure => simp [intOf]; omega
end Go.Proofs.Ythkleabdnjhniaa
