/-
  Structs of 7 ints: the layout of a slice of them; the contracts of the laws' helpers on []Blob.
-/
import Derived.Test.YtpkcpkhanodnmaaRdr
namespace Go.Proofs.Ytpkcpkhanodnmaa
open Go Go.RowKit
structure Blb where
  Size : Int
  SumX : Int
  SumY : Int
  Left : Int
  Right : Int
  Top : Int
  Bottom : Int
/-- .. as a value. -/
def Blb.val (x : Blb) : Value := .agg #[.int .i64 x.Size, .int .i64 x.SumX, .int .i64 x.SumY, .int .i64 x.Left, .int .i64 x.Right, .int .i64 x.Top, .int .i64 x.Bottom]
def LBlb : Lay Blb := ⟨7, 27, fun x => [.int .i64 x.Size, .int .i64 x.SumX, .int .i64 x.SumY, .int .i64 x.Left, .int .i64 x.Right, .int .i64 x.Top, .int .i64 x.Bottom], fun _ => rfl, by decide, by intro x u hu; simp at hu; rcases hu with h | h | h | h | h | h | h <;> subst h <;> rfl⟩
theorem LBlb_info : Nonempty (ElemInfo Try.prog LBlb 42 ⟨0, 0, 0, 0, 0, 0, 0⟩) := ElemInfo.mk' (z := .agg #[.int .i64 0, .int .i64 0, .int .i64 0, .int .i64 0, .int .i64 0, .int .i64 0, .int .i64 0]) (bytes := 56) Try.underlying42 (by kernel_rfl) rfl (by decide)
theorem LBlb_get {w : World} {v : Value} {xs : List Blb} (h : Rds LBlb w v xs) : ∃ (a : Option Addr) (n cap : Nat), v = .slice a n cap ∧ n ≤ cap ∧ cap ≤ 9223372036854775807 ∧ RowKit.Hid (n = xs.length) ∧
    RowKit.Hid (∀ k, k < n → ∃ (b off : Nat) (x : Blb), a = some ⟨b, off, none⟩ ∧ b < w.heap.size ∧ RowKit.Hid (xs[k]? = some x) ∧ w.cell? ⟨b, off + k * 7, none⟩ = some (.int .i64 x.Size) ∧ w.cell? ⟨b, off + k * 7 + 1, none⟩ = some (.int .i64 x.SumX) ∧ w.cell? ⟨b, off + k * 7 + 2, none⟩ = some (.int .i64 x.SumY) ∧ w.cell? ⟨b, off + k * 7 + 3, none⟩ = some (.int .i64 x.Left) ∧ w.cell? ⟨b, off + k * 7 + 4, none⟩ = some (.int .i64 x.Right) ∧ w.cell? ⟨b, off + k * 7 + 5, none⟩ = some (.int .i64 x.Top) ∧ w.cell? ⟨b, off + k * 7 + 6, none⟩ = some (.int .i64 x.Bottom)) := by
  obtain ⟨a, n, cap, hv, h1, h2, HN, HC⟩ := h.get
  refine ⟨a, n, cap, hv, h1, h2, HN, fun k hk => ?_⟩
  obtain ⟨b, off, x, ha, hb, hx, hc⟩ := HC.out k hk
  exact ⟨b, off, x, ha, hb, hx, hc 0 _ rfl, hc 1 _ rfl, hc 2 _ rfl, hc 3 _ rfl, hc 4 _ rfl, hc 5 _ rfl, hc 6 _ rfl⟩
theorem LBlb_own {w0 w : World} {v : Value} {xs : List Blb} {Ls : List Asr} (h : St w0 w (Own LBlb v xs :: Ls)) : ∃ (a : Option Addr) (n cap : Nat), v = .slice a n cap ∧ n ≤ cap ∧ cap ≤ 9223372036854775807 ∧ RowKit.Hid (n = xs.length) ∧
    RowKit.Hid (∀ k, k < n → ∃ (g : Nat) (x : Blb), a = some ⟨g, 0, none⟩ ∧ w0.heap.size ≤ g ∧ g < w.heap.size ∧ RowKit.Hid (xs[k]? = some x) ∧ (w.cell? ⟨g, k * 7, none⟩ = some (.int .i64 x.Size) ∧ w.cell? ⟨g, k * 7 + 1, none⟩ = some (.int .i64 x.SumX) ∧ w.cell? ⟨g, k * 7 + 2, none⟩ = some (.int .i64 x.SumY) ∧ w.cell? ⟨g, k * 7 + 3, none⟩ = some (.int .i64 x.Left) ∧ w.cell? ⟨g, k * 7 + 4, none⟩ = some (.int .i64 x.Right) ∧ w.cell? ⟨g, k * 7 + 5, none⟩ = some (.int .i64 x.Top) ∧ w.cell? ⟨g, k * 7 + 6, none⟩ = some (.int .i64 x.Bottom)) ∧ (∀ j, w.frozen? ⟨g, j, none⟩ = false)) := by
  obtain ⟨a, n, cap, hv, h1, h2, HN, HC⟩ := h.ownGet
  refine ⟨a, n, cap, hv, h1, h2, HN, fun k hk => ?_⟩
  obtain ⟨g, x, ha, hb, hb2, hx, hc, hf⟩ := HC.out k hk
  exact ⟨g, x, ha, hb, hb2, hx, ⟨hc 0 _ rfl, hc 1 _ rfl, hc 2 _ rfl, hc 3 _ rfl, hc 4 _ rfl, hc 5 _ rfl, hc 6 _ rfl⟩, hf⟩
theorem LBlb_setSize {w0 w : World} {v : Value} {xs : List Blb} {Ls : List Asr} (h : St w0 w (Own LBlb v xs :: Ls)) {g : Nat} (hv : v.ownBlock = some g) (k : Nat) (x : Blb) (z : Int) (hx : xs[k]? = some x) :
    St w0 (w.setCell ⟨g, k * 7, none⟩ (.int .i64 z)) (Own LBlb v (xs.set k { x with Size := z }) :: Ls) := by
  obtain ⟨hk, rfl⟩ := List.getElem?_eq_some_iff.1 hx
  exact h.setAt hv k 0 _ _ hk (by decide) rfl
theorem LBlb_setSumX {w0 w : World} {v : Value} {xs : List Blb} {Ls : List Asr} (h : St w0 w (Own LBlb v xs :: Ls)) {g : Nat} (hv : v.ownBlock = some g) (k : Nat) (x : Blb) (z : Int) (hx : xs[k]? = some x) :
    St w0 (w.setCell ⟨g, k * 7 + 1, none⟩ (.int .i64 z)) (Own LBlb v (xs.set k { x with SumX := z }) :: Ls) := by
  obtain ⟨hk, rfl⟩ := List.getElem?_eq_some_iff.1 hx
  exact h.setAt hv k 1 _ _ hk (by decide) rfl
theorem LBlb_setSumY {w0 w : World} {v : Value} {xs : List Blb} {Ls : List Asr} (h : St w0 w (Own LBlb v xs :: Ls)) {g : Nat} (hv : v.ownBlock = some g) (k : Nat) (x : Blb) (z : Int) (hx : xs[k]? = some x) :
    St w0 (w.setCell ⟨g, k * 7 + 2, none⟩ (.int .i64 z)) (Own LBlb v (xs.set k { x with SumY := z }) :: Ls) := by
  obtain ⟨hk, rfl⟩ := List.getElem?_eq_some_iff.1 hx
  exact h.setAt hv k 2 _ _ hk (by decide) rfl
theorem LBlb_setLeft {w0 w : World} {v : Value} {xs : List Blb} {Ls : List Asr} (h : St w0 w (Own LBlb v xs :: Ls)) {g : Nat} (hv : v.ownBlock = some g) (k : Nat) (x : Blb) (z : Int) (hx : xs[k]? = some x) :
    St w0 (w.setCell ⟨g, k * 7 + 3, none⟩ (.int .i64 z)) (Own LBlb v (xs.set k { x with Left := z }) :: Ls) := by
  obtain ⟨hk, rfl⟩ := List.getElem?_eq_some_iff.1 hx
  exact h.setAt hv k 3 _ _ hk (by decide) rfl
theorem LBlb_setRight {w0 w : World} {v : Value} {xs : List Blb} {Ls : List Asr} (h : St w0 w (Own LBlb v xs :: Ls)) {g : Nat} (hv : v.ownBlock = some g) (k : Nat) (x : Blb) (z : Int) (hx : xs[k]? = some x) :
    St w0 (w.setCell ⟨g, k * 7 + 4, none⟩ (.int .i64 z)) (Own LBlb v (xs.set k { x with Right := z }) :: Ls) := by
  obtain ⟨hk, rfl⟩ := List.getElem?_eq_some_iff.1 hx
  exact h.setAt hv k 4 _ _ hk (by decide) rfl
theorem LBlb_setTop {w0 w : World} {v : Value} {xs : List Blb} {Ls : List Asr} (h : St w0 w (Own LBlb v xs :: Ls)) {g : Nat} (hv : v.ownBlock = some g) (k : Nat) (x : Blb) (z : Int) (hx : xs[k]? = some x) :
    St w0 (w.setCell ⟨g, k * 7 + 5, none⟩ (.int .i64 z)) (Own LBlb v (xs.set k { x with Top := z }) :: Ls) := by
  obtain ⟨hk, rfl⟩ := List.getElem?_eq_some_iff.1 hx
  exact h.setAt hv k 5 _ _ hk (by decide) rfl
theorem LBlb_setBottom {w0 w : World} {v : Value} {xs : List Blb} {Ls : List Asr} (h : St w0 w (Own LBlb v xs :: Ls)) {g : Nat} (hv : v.ownBlock = some g) (k : Nat) (x : Blb) (z : Int) (hx : xs[k]? = some x) :
    St w0 (w.setCell ⟨g, k * 7 + 6, none⟩ (.int .i64 z)) (Own LBlb v (xs.set k { x with Bottom := z }) :: Ls) := by
  obtain ⟨hk, rfl⟩ := List.getElem?_eq_some_iff.1 hx
  exact h.setAt hv k 6 _ _ hk (by decide) rfl
theorem LBlb_setAll {w0 w : World} {v : Value} {xs : List Blb} {Ls : List Asr} (s0 : St w0 w (Own LBlb v xs :: Ls)) {g : Nat} (hv : v.ownBlock = some g) (k : Nat) (z : Blb) (hk : k < xs.length) :
    St w0 (((((((w.setCell ⟨g, k * 7, none⟩ (.int .i64 z.Size)).setCell ⟨g, k * 7 + 1, none⟩ (.int .i64 z.SumX)).setCell ⟨g, k * 7 + 2, none⟩ (.int .i64 z.SumY)).setCell ⟨g, k * 7 + 3, none⟩ (.int .i64 z.Left)).setCell ⟨g, k * 7 + 4, none⟩ (.int .i64 z.Right)).setCell ⟨g, k * 7 + 5, none⟩ (.int .i64 z.Top)).setCell ⟨g, k * 7 + 6, none⟩ (.int .i64 z.Bottom)) (Own LBlb v (xs.set k z) :: Ls) := by
  obtain ⟨x, hx⟩ : ∃ x, xs[k]? = some x := ⟨_, List.getElem?_eq_getElem hk⟩
  have s1 := LBlb_setSize s0 hv k x z.Size (by rw [hx])
  have s2 := LBlb_setSumX s1 hv k { x with Size := z.Size } z.SumX (by rw [List.getElem?_set_self (by simpa using hk)])
  have s3 := LBlb_setSumY s2 hv k { x with Size := z.Size, SumX := z.SumX } z.SumY (by rw [List.getElem?_set_self (by simpa using hk)])
  have s4 := LBlb_setLeft s3 hv k { x with Size := z.Size, SumX := z.SumX, SumY := z.SumY } z.Left (by rw [List.getElem?_set_self (by simpa using hk)])
  have s5 := LBlb_setRight s4 hv k { x with Size := z.Size, SumX := z.SumX, SumY := z.SumY, Left := z.Left } z.Right (by rw [List.getElem?_set_self (by simpa using hk)])
  have s6 := LBlb_setTop s5 hv k { x with Size := z.Size, SumX := z.SumX, SumY := z.SumY, Left := z.Left, Right := z.Right } z.Top (by rw [List.getElem?_set_self (by simpa using hk)])
  have s7 := LBlb_setBottom s6 hv k { x with Size := z.Size, SumX := z.SumX, SumY := z.SumY, Left := z.Left, Right := z.Right, Top := z.Top } z.Bottom (by rw [List.getElem?_set_self (by simpa using hk)])
  simp only [List.set_set] at s7
  exact s7
set_option maxHeartbeats 1000000 in
theorem toBlob_s (x : Blb) (w : World) : Calls Try.prog 15 #[.agg #[.int .i64 x.Size, .int .i64 x.SumX, .int .i64 x.SumY, .int .i64 x.Left, .int .i64 x.Right, .int .i64 x.Top, .int .i64 x.Bottom]] w fun e w' => e = .returned (.agg #[.int .i64 x.Size, .int .i64 x.SumX, .int .i64 x.SumY, .int .i64 x.Left, .int .i64 x.Right, .int .i64 x.Top, .int .i64 x.Bottom]) ∧ w.grownBy w' none := by
  obtain ⟨xSize, xSumX, xSumY, xLeft, xRight, xTop, xBottom⟩ := x
  go_enter Try.func15, Try.ntmps15
  go_wp2
  exact bodyPost_ret (v := .agg #[.int .i64 xSize, .int .i64 xSumX, .int .i64 xSumY, .int .i64 xLeft, .int .i64 xRight, .int .i64 xTop, .int .i64 xBottom]) (by simp [results, Try.results15, go_sem]) rfl ⟨rfl, gb_alloc (gb_alloc (gb_alloc (World.grownBy.refl _ _) _) _) _⟩
set_option maxHeartbeats 1000000 in
theorem eqBlob_s (x : Blb) (w : World) : Calls Try.prog 64 #[.agg #[.int .i64 x.Size, .int .i64 x.SumX, .int .i64 x.SumY, .int .i64 x.Left, .int .i64 x.Right, .int .i64 x.Top, .int .i64 x.Bottom], .agg #[.int .i64 x.Size, .int .i64 x.SumX, .int .i64 x.SumY, .int .i64 x.Left, .int .i64 x.Right, .int .i64 x.Top, .int .i64 x.Bottom]] w fun e w' => e = .returned (.bool true) ∧ w.grownBy w' none := by
  obtain ⟨xSize, xSumX, xSumY, xLeft, xRight, xTop, xBottom⟩ := x
  go_enter Try.func64, Try.ntmps64
  go_wp2
  go_ret
  exact ⟨rfl, gb_alloc (gb_alloc (World.grownBy.refl _ _) _) _⟩
set_option maxHeartbeats 1000000 in
theorem eqBlobS_s (v u : Value) (xs : List Blb) (w : World) (hv : Rds LBlb w v xs) (hu : Rds LBlb w u xs) :
    Calls Try.prog 41 #[v, u] w fun e w' => e = .returned (.bool true) ∧ w.grownBy w' none := by
  obtain ⟨a, n, cap, rfl, h1, hm, HN, HC⟩ := LBlb_get hv
  obtain ⟨a', n', cap', rfl, h1', hm', HN', HC'⟩ := LBlb_get hu
  obtain rfl : n = n' := by rw [HN.out, HN'.out]
  go_enter Try.func41, Try.ntmps41
  go_wp2
  go_loopw [5] (fun i wr => ∃ k : Nat, k ≤ n ∧ i = .int .i64 k ∧ w.grownBy wr none) (fun i _ => n - (intOf i).toNat)
  case atStart => exact ⟨0, by omega, rfl, World.grownBy.refl _ _⟩
  case round =>
    obtain ⟨k, hk, rfl, hg⟩ := hrel
    by_cases hlt : k < n
    · obtain ⟨b, off, x, rfl, _, hx, hc0, hc1, hc2, hc3, hc4, hc5, hc6⟩ := HC.out k hlt
      obtain ⟨b', off', x', rfl, _, hx', hd0, hd1, hd2, hd3, hd4, hd5, hd6⟩ := HC'.out k hlt
      obtain rfl : x = x' := by have h1 := hx.out; have h2 := hx'.out; rw [h1] at h2; exact Option.some.inj h2
      have hc0' := gb_cell hg hc0 (by simp)
      have hd0' := gb_cell hg hd0 (by simp)
      clear hc0 hd0
      have hc1' := gb_cell hg hc1 (by simp)
      have hd1' := gb_cell hg hd1 (by simp)
      clear hc1 hd1
      have hc2' := gb_cell hg hc2 (by simp)
      have hd2' := gb_cell hg hd2 (by simp)
      clear hc2 hd2
      have hc3' := gb_cell hg hc3 (by simp)
      have hd3' := gb_cell hg hd3 (by simp)
      clear hc3 hd3
      have hc4' := gb_cell hg hc4 (by simp)
      have hd4' := gb_cell hg hd4 (by simp)
      clear hc4 hd4
      have hc5' := gb_cell hg hc5 (by simp)
      have hd5' := gb_cell hg hd5 (by simp)
      clear hc5 hd5
      have hc6' := gb_cell hg hc6 (by simp)
      have hd6' := gb_cell hg hd6 (by simp)
      clear hc6 hd6
      have HG := Lib.hid hg
      have i0 : (0 : Int) ≤ (k : Int) := by omega
      have i1 : (k : Int) < (n : Int) := by omega
      clear hg hx hx'
      go_wp2
      go_region_held3 (fun w' => w'.cell? ⟨b, off + k * 7, none⟩ = some (.int .i64 x.Size) ∧ w'.cell? ⟨b', off' + k * 7, none⟩ = some (.int .i64 x.Size) ∧ w'.cell? ⟨b, off + k * 7 + 1, none⟩ = some (.int .i64 x.SumX) ∧ w'.cell? ⟨b', off' + k * 7 + 1, none⟩ = some (.int .i64 x.SumX) ∧ w'.cell? ⟨b, off + k * 7 + 2, none⟩ = some (.int .i64 x.SumY) ∧ w'.cell? ⟨b', off' + k * 7 + 2, none⟩ = some (.int .i64 x.SumY) ∧ w'.cell? ⟨b, off + k * 7 + 3, none⟩ = some (.int .i64 x.Left) ∧ w'.cell? ⟨b', off' + k * 7 + 3, none⟩ = some (.int .i64 x.Left) ∧ w'.cell? ⟨b, off + k * 7 + 4, none⟩ = some (.int .i64 x.Right) ∧ w'.cell? ⟨b', off' + k * 7 + 4, none⟩ = some (.int .i64 x.Right) ∧ w'.cell? ⟨b, off + k * 7 + 5, none⟩ = some (.int .i64 x.Top) ∧ w'.cell? ⟨b', off' + k * 7 + 5, none⟩ = some (.int .i64 x.Top) ∧ w'.cell? ⟨b, off + k * 7 + 6, none⟩ = some (.int .i64 x.Bottom) ∧ w'.cell? ⟨b', off' + k * 7 + 6, none⟩ = some (.int .i64 x.Bottom)) (first | go_keep | (go_split_ands; refine ⟨?_, ?_, ?_, ?_, ?_, ?_, ?_, ?_, ?_, ?_, ?_, ?_, ?_, ?_⟩ <;> exact gb_cell g2 (by assumption) (by simp))) ((go_at_call 64; refine (eqBlob_s x _).mono ?_; rintro e w2 ⟨rfl, g2⟩))
      have G2 := gb_trans (gb_drew HG.out) g2
      clear g2 hc0' hd0' hc1' hd1' hc2' hd2' hc3' hd3' hc4' hd4' hc5' hd5' hc6' hd6'
      go_wp2
      go_roundw
      case rel => exact ⟨k + 1, by omega, by go_num, G2⟩
      case measure => simp [intOf]; omega
    · go_wp2
      go_ret
      exact ⟨rfl, hg⟩
/-- The j-th mark. -/
def mkBlb (k0 : Int) (j : Nat) : Blb := ⟨k0 + 7 * (j : Int), k0 + 7 * (j : Int) + 1, k0 + 7 * (j : Int) + 1 + 1, k0 + 7 * (j : Int) + 1 + 1 + 1, k0 + 7 * (j : Int) + 1 + 1 + 1 + 1, k0 + 7 * (j : Int) + 1 + 1 + 1 + 1 + 1, k0 + 7 * (j : Int) + 1 + 1 + 1 + 1 + 1 + 1⟩
theorem mkzBlbSize (k0 : Int) (k : Nat) : (mkBlb k0 k).Size = k0 + 7 * (k : Int) := rfl
theorem mkzBlbSumX (k0 : Int) (k : Nat) : (mkBlb k0 k).SumX = k0 + 7 * (k : Int) + 1 := rfl
theorem mkzBlbSumY (k0 : Int) (k : Nat) : (mkBlb k0 k).SumY = k0 + 7 * (k : Int) + 1 + 1 := rfl
theorem mkzBlbLeft (k0 : Int) (k : Nat) : (mkBlb k0 k).Left = k0 + 7 * (k : Int) + 1 + 1 + 1 := rfl
theorem mkzBlbRight (k0 : Int) (k : Nat) : (mkBlb k0 k).Right = k0 + 7 * (k : Int) + 1 + 1 + 1 + 1 := rfl
theorem mkzBlbTop (k0 : Int) (k : Nat) : (mkBlb k0 k).Top = k0 + 7 * (k : Int) + 1 + 1 + 1 + 1 + 1 := rfl
theorem mkzBlbBottom (k0 : Int) (k : Nat) : (mkBlb k0 k).Bottom = k0 + 7 * (k : Int) + 1 + 1 + 1 + 1 + 1 + 1 := rfl
set_option maxHeartbeats 4000000 in
theorem markBlobS_s (w0 : World) (v : Value) (xs : List Blb) (k0 : Int) (Ls : List Asr) (w : World) (S : St w0 w (Own LBlb v xs :: Ls)) (hk0 : 0 ≤ k0) (hk1 : k0 ≤ 1099511627776) (hn : xs.length ≤ 1099511627776) :
    Calls Try.prog 42 #[v, .int .i64 k0] w fun e w' => e = .returned (.int .i64 (k0 + 7 * (xs.length : Int))) ∧ St w0 w' (Own LBlb v ((List.range xs.length).map (mkBlb k0)) :: Ls) := by
  obtain ⟨a, n, cap, rfl, h1, hm, HN, HC⟩ := LBlb_own S
  have hn' : n ≤ 1099511627776 := by rw [HN.out]; exact hn
  have Sh : RowKit.Hid (∀ wr k, k = n → St w0 wr (Own LBlb (.slice a n cap) ((List.range k).map (mkBlb k0) ++ xs.drop k) :: Ls) → St w0 wr (Own LBlb (.slice a n cap) ((List.range xs.length).map (mkBlb k0)) :: Ls)) := by
    rintro wr k rfl h
    rw [HN.out, List.drop_length, List.append_nil] at h
    rw [HN.out]
    exact h
  have HL : RowKit.Hid ((n : Int) = (xs.length : Int)) := by show (n : Int) = (xs.length : Int); rw [HN.out]
  clear hn HC
  go_enter Try.func42, Try.ntmps42
  go_wp2
  go_loopw [1, 5] (fun u i wr => ∃ k : Nat, k ≤ n ∧ u = .int .i64 (k0 + 7 * (k : Int)) ∧ i = .int .i64 k ∧ St w0 wr (Own LBlb (.slice a n cap) ((List.range k).map (mkBlb k0) ++ xs.drop k) :: Ls)) (fun _ i _ => n - (intOf i).toNat)
  case atStart => exact ⟨0, by omega, by simp, rfl, by simpa using S⟩
  case round =>
    obtain ⟨k, hk, rfl, rfl, s0⟩ := hrel
    clear S
    by_cases hlt : k < n
    · have hk2 : k < xs.length := by rw [← HN.out]; exact hlt
      obtain ⟨a1, n1, c1, hv1, -, -, HN1, HC1⟩ := LBlb_own s0
      simp only [Value.slice.injEq] at hv1
      obtain ⟨rfl, rfl, rfl⟩ := hv1
      obtain ⟨g, x, rfl, hg1, hg2, hx, ⟨hc0, hc1, hc2, hc3, hc4, hc5, hc6⟩, hf⟩ := HC1.out k hlt
      have hx2 : some xs[k] = some x := by have := hx.out; rw [mark_get _ _ _ hk2] at this; exact this
      have SE := LBlb_setAll s0 (g := g) rfl k (mkBlb k0 k) (by rw [mark_len _ _ _ (by omega)]; exact hk2)
      rw [mark_step _ xs k hk2] at SE
      simp only [mkzBlbSize, mkzBlbSumX, mkzBlbSumY, mkzBlbLeft, mkzBlbRight, mkzBlbTop, mkzBlbBottom] at SE
      have SF := Lib.hid SE
      clear HC1 HN1 s0 hx hx2 hk2 SE hg1 hg2
      go_wp2
      go_roundw
      case rel => exact ⟨k + 1, by omega, by go_num, by go_num, SF.out⟩
      case measure => simp [intOf]; omega
    · have S2 := Sh.out wr k (by omega) s0
      obtain rfl : k = n := by omega
      go_wp2
      go_ret
      exact ⟨by rw [HL.out]; rfl, S2⟩
set_option maxHeartbeats 4000000 in
theorem heldBlobS_s (v : Value) (m : Nat) (k0 : Int) (w : World) (hv : Rds LBlb w v ((List.range m).map (mkBlb k0))) (hk0 : 0 ≤ k0) (hk1 : k0 ≤ 1099511627776) (hn : m ≤ 1099511627776) :
    Calls Try.prog 43 #[v, .int .i64 k0] w fun e w' => e = .returned (.int .i64 (k0 + 7 * (m : Int))) ∧ w.grownBy w' none := by
  obtain ⟨a, n, cap, rfl, h1, hm, HN, HC⟩ := LBlb_get hv
  obtain rfl : n = m := by have := HN.out; simpa using this
  clear HN hv
  go_enter Try.func43, Try.ntmps43
  go_wp2
  go_loopw [1, 5] (fun u i wr => ∃ k q : Nat, k ≤ n ∧ u = .int .i64 (k0 + 7 * (k : Int)) ∧ i = .int .i64 k ∧ wr = w.drewN q) (fun _ i _ => n - (intOf i).toNat)
  case atStart => exact ⟨0, 0, by omega, by simp, rfl, rfl⟩
  case round =>
    obtain ⟨k, q, hk, rfl, rfl, rfl⟩ := hrel
    by_cases hlt : k < n
    · obtain ⟨b, off, x, rfl, _, hx, hc0, hc1, hc2, hc3, hc4, hc5, hc6⟩ := HC.out k hlt
      obtain rfl : x = mkBlb k0 k := by
        have := hx.out
        rw [List.getElem?_map, List.getElem?_range hlt] at this
        exact (Option.some.inj this).symm
      clear hx
      simp only [mkBlb] at hc0 hc1 hc2 hc3 hc4 hc5 hc6
      go_wp2
      go_roundw
      case rel => exact ⟨k + 1, _, by omega, by go_num, by go_num, rfl⟩
      case measure => simp [intOf]; omega
    · obtain rfl : k = n := by omega
      go_wp2
      go_ret
      exact ⟨rfl, gb_drewN (World.grownBy.refl _ _) q⟩
end Go.Proofs.Ytpkcpkhanodnmaa
