/-
  Small facts on worlds, readers and rows of integers that every walk of this seat uses. Plain Lean over the model: no function of the program.
-/
import Derived.WalkKit
import Derived.WalkSpells
import Derived.Lib.Hide
import Derived.Handy
import Derived.Deep.QuietTactic
import Derived.BigQuiet
import Derived.Deep.RegionHeld3
import Derived.Deep.RegionWith
import Derived.Deep.DrawnRows
import Derived.Deep.DeepCutAuto
import Derived.Deep.CutBlock
namespace Go.Proofs.YtbhelobahfgaeaaDoor
open Go Go.RowKit

/-- Blocks that were there are as they were, but for block 'row'; new blocks may have come. -/
theorem gb_trans {w w1 w2 : World} {row : Option Nat} (h : w.grownBy w1 row) (k : w1.grownBy w2 row) : w.grownBy w2 row :=
  ⟨k.os.trans h.os, k.tape.trans h.tape, k.output.trans h.output, Nat.le_trans h.size k.size, fun i hi hr => (k.block i (Nat.lt_of_lt_of_le hi h.size) hr).trans (h.block i hi hr)⟩
theorem gb_drew {w w1 : World} {row : Option Nat} (h : w.grownBy w1 row) : w.grownBy w1.drew row := ⟨h.os, h.tape, h.output, h.size, h.block⟩
theorem gb_drewN {w w1 : World} {row : Option Nat} (h : w.grownBy w1 row) (n : Nat) : w.grownBy (w1.drewN n) row :=
  ⟨h.os, h.tape, h.output, h.size, h.block⟩
theorem gb_alloc {w w1 : World} {row : Option Nat} (h : w.grownBy w1 row) (o : Obj) : w.grownBy (w1.alloc o) row := gb_trans h (World.grownBy_alloc w1 o row)
theorem gb_setCell {w w1 : World} {r : Nat} (h : w.grownBy w1 (some r)) (o : Nat) (v : Value) : w.grownBy (w1.setCell ⟨r, o, none⟩ v) (some r) :=
  gb_trans h ⟨rfl, rfl, rfl, by simp, fun k _ hk => Below.heap_setCell _ _ _ _ (fun e => hk (by rw [e]))⟩
theorem gb_any {w w1 : World} (h : w.grownBy w1 none) (row : Option Nat) : w.grownBy w1 row := ⟨h.os, h.tape, h.output, h.size, fun k hk _ => h.block k hk (by simp)⟩
/-- What was written lies in a block that came since. -/
theorem gb_new {w w1 : World} {row : Option Nat} (h : w.grownBy w1 row) (hr : ∀ k, row = some k → w.heap.size ≤ k) : w.grownBy w1 none :=
  ⟨h.os, h.tape, h.output, h.size, fun k hk _ => h.block k hk (fun e => by have := hr k e.symm; omega)⟩
/-- w to w1, then a write into a block that came since w. -/
theorem gb_after {w w1 w2 : World} {row row' : Option Nat} (h : w.grownBy w1 row) (k : w1.grownBy w2 row') (hr : ∀ b, row' = some b → w.heap.size ≤ b ∨ row = some b) : w.grownBy w2 row :=
  ⟨k.os.trans h.os, k.tape.trans h.tape, k.output.trans h.output, Nat.le_trans h.size k.size, fun i hi hrow => (k.block i (Nat.lt_of_lt_of_le hi h.size) (fun e => by
    rcases hr i e.symm with h1 | h1
    · omega
    · exact hrow h1.symm)).trans (h.block i hi hrow)⟩
/-- A write into a block that came since stays unseen, whatever was written before. -/
theorem gb_own {w w1 w2 : World} {row row' : Option Nat} (h : w.grownBy w1 row) (k : w1.grownBy w2 row') (hr : ∀ b, row' = some b → w.heap.size ≤ b) : w.grownBy w2 row := gb_after h k (fun b hb => .inl (hr b hb))
theorem gb_set1 (w : World) (b o : Nat) (v : Value) : w.grownBy (w.setCell ⟨b, o, none⟩ v) (some b) := gb_setCell (World.grownBy.refl _ _) o v
theorem gb_setNew {w w1 : World} {row : Option Nat} {b : Nat} (h : w.grownBy w1 row) (hb : w.heap.size ≤ b) (o : Nat) (v : Value) : w.grownBy (w1.setCell ⟨b, o, none⟩ v) row :=
  gb_own h (gb_set1 w1 b o v) (fun c hc => by rw [← Option.some.inj hc]; exact hb)
theorem gb_below {w w1 : World} (h : w.grownBy w1 none) : Below w.heap.size w w1 := ⟨h.os, h.tape, h.output, h.size, fun k hk => h.block k hk (by simp)⟩
theorem below_gb {w w1 : World} (h : Below w.heap.size w w1) : w.grownBy w1 none := ⟨h.os, h.tape, h.output, h.size, fun k hk _ => h.block k hk⟩
theorem gb_cell {w w1 : World} {row : Option Nat} (h : w.grownBy w1 row) {b o : Nat} {v : Value} (hc : w.cell? ⟨b, o, none⟩ = some v) (hb : row ≠ some b) : w1.cell? ⟨b, o, none⟩ = some v :=
  h.cell hc (fun e => hb e.symm)
theorem gb_frozen {w w1 : World} {row : Option Nat} (h : w.grownBy w1 row) {b o : Nat} (hs : b < w.heap.size) (hc : w.frozen? ⟨b, o, none⟩ = false) (hb : row ≠ some b) : w1.frozen? ⟨b, o, none⟩ = false :=
  (World.frozen?_of_block (a := ⟨b, o, none⟩) (h.block b hs (fun e => hb e.symm))).trans hc
theorem gb_heap {w w1 : World} {row : Option Nat} (h : w.grownBy w1 row) {b : Nat} {x : Obj} (hc : w.heap[b]? = some x) (hb : row ≠ some b) : w1.heap[b]? = some x :=
  (h.block b (lt_of_block hc) (fun e => hb e.symm)).trans hc
/-- Old cells and old marks read as before: two rules for the walk. -/
theorem bcell {w w1 : World} (h : w.grownBy w1 none) : (∀ b o, b < w.heap.size → w1.cell? ⟨b, o, none⟩ = w.cell? ⟨b, o, none⟩) ∧ (∀ b o, b < w.heap.size → w1.frozen? ⟨b, o, none⟩ = w.frozen? ⟨b, o, none⟩) :=
  ⟨fun b o hb => World.cell?_of_block (a := ⟨b, o, none⟩) (h.block b hb (by simp)), fun b o hb => World.frozen?_of_block (a := ⟨b, o, none⟩) (h.block b hb (by simp))⟩
theorem bcellRow {w w1 : World} {r : Nat} (h : w.grownBy w1 (some r)) : (∀ b o, b < w.heap.size → b ≠ r → w1.cell? ⟨b, o, none⟩ = w.cell? ⟨b, o, none⟩) ∧ (∀ b o, b < w.heap.size → b ≠ r → w1.frozen? ⟨b, o, none⟩ = w.frozen? ⟨b, o, none⟩) :=
  ⟨fun b o hb hr => World.cell?_of_block (a := ⟨b, o, none⟩) (h.block b hb (by simpa using hr)), fun b o hb hr => World.frozen?_of_block (a := ⟨b, o, none⟩) (h.block b hb (by simpa using hr))⟩
theorem cell_lt {w : World} {b o : Nat} {v : Value} (h : w.cell? ⟨b, o, none⟩ = some v) : b < w.heap.size := World.block_lt_of_cell? w ⟨b, o, none⟩ h

/-- THE READER of the draws: block B holds the bytes and the place; at most m picks so far. -/
def Rd (T : TypeId) (w : World) (B m : Nat) : Prop :=
  ∃ (ca : Option Addr) (len cap : Nat) (p : Int), 0 ≤ p ∧ p ≤ m ∧ len ≤ 2000 ∧ w.heap[B]? = some (.cells #[.slice ca len cap, .int .i64 p] T (0, 0)) ∧
    (len = 0 ∨ ∃ b off, ca = some ⟨b, off, none⟩ ∧ b < B ∧ ∀ j, j < len → ∃ c : Int, w.cell? ⟨b, off + j, none⟩ = some (.int .u8 c) ∧ 0 ≤ c ∧ c ≤ 255)
theorem Rd.lt {T : TypeId} {w : World} {B m : Nat} (h : Rd T w B m) : B < w.heap.size := by
  obtain ⟨ca, len, cap, p, _, _, _, hb, _⟩ := h
  exact lt_of_block hb
/-- The reader stays behind whatever leaves its own block and the bytes' block alone. -/
theorem Rd.kept {T : TypeId} {w w1 : World} {B m : Nat} (h : Rd T w B m) (hg : w.grownBy w1 none) : Rd T w1 B m := by
  obtain ⟨ca, len, cap, p, h1, h2, h3, hb, hc⟩ := h
  refine ⟨ca, len, cap, p, h1, h2, h3, gb_heap hg hb (by simp), ?_⟩
  rcases hc with hc | ⟨b, off, ha, hne, hc⟩
  · exact .inl hc
  · refine .inr ⟨b, off, ha, hne, fun j hj => ?_⟩
    obtain ⟨c, hc, hr⟩ := hc j hj
    exact ⟨c, gb_cell hg hc (by simp), hr⟩
/-- .. and behind a write into a block that came after it. -/
theorem Rd.keptRow {T : TypeId} {w w1 : World} {B m : Nat} {row : Option Nat} (h : Rd T w B m) (hg : w.grownBy w1 row) (hr : ∀ r, row = some r → B < r) : Rd T w1 B m := by
  obtain ⟨ca, len, cap, p, h1, h2, h3, hb, hc⟩ := h
  refine ⟨ca, len, cap, p, h1, h2, h3, gb_heap hg hb (fun e => by have := hr B e; omega), ?_⟩
  rcases hc with hc | ⟨b, off, ha, hne, hc⟩
  · exact .inl hc
  · refine .inr ⟨b, off, ha, hne, fun j hj => ?_⟩
    obtain ⟨c, hc, hr'⟩ := hc j hj
    exact ⟨c, gb_cell hg hc (fun e => by have := hr b e; omega), hr'⟩
theorem Rd.setCell {T : TypeId} {w : World} {B m b : Nat} (h : Rd T w B m) (hb : B < b) (o : Nat) (v : Value) : Rd T (w.setCell ⟨b, o, none⟩ v) B m :=
  h.keptRow (gb_set1 w b o v) (fun r hr => by rw [← Option.some.inj hr]; exact hb)
theorem Rd.drew {T : TypeId} {w : World} {B m : Nat} (h : Rd T w B m) : Rd T w.drew B m := h
theorem Rd.alloc {T : TypeId} {w : World} {B m : Nat} (h : Rd T w B m) (o : Obj) : Rd T (w.alloc o) B m := h.kept (World.grownBy_alloc w o none)
theorem Rd.mono {T : TypeId} {w : World} {B m m' : Nat} (h : Rd T w B m) (hm : m ≤ m') : Rd T w B m' := by
  obtain ⟨ca, len, cap, p, h1, h2, h3⟩ := h
  exact ⟨ca, len, cap, p, h1, by omega, h3⟩
/-- What 'pick' gives. -/
def Pk (n v : Int) : Prop := 0 ≤ v ∧ (1 ≤ n → v < n) ∧ (n < 1 → v = 0)
theorem Pk.lo {n v : Int} (h : Pk n v) : 0 ≤ v := h.1
theorem Pk.hi {n v : Int} (h : Pk n v) (hn : 1 ≤ n) : v < n := h.2.1 hn
/-- The post of a pick. -/
def PickPost (T : TypeId) (w : World) (B m : Nat) (n : Int) (e : Ending) (w' : World) : Prop :=
  ∃ v : Int, e = .returned (.int .i64 v) ∧ Pk n v ∧ Rd T w' B (m + 1) ∧ w.grownBy w' (some B)
def OddPost (T : TypeId) (w : World) (B m : Nat) (e : Ending) (w' : World) : Prop :=
  ∃ v : Bool, e = .returned (.bool v) ∧ Rd T w' B (m + 1) ∧ w.grownBy w' (some B)

/-- An element of a literal list, by its place: under a name, so that no walk parts on it. -/
def sel (l : List Int) (n : Nat) : Int := l.getD n 0
theorem sel_bd {l : List Int} {lo hi : Int} (h : ∀ x ∈ l, lo ≤ x ∧ x ≤ hi) {n : Nat} (hn : n < l.length) : lo ≤ sel l n ∧ sel l n ≤ hi := by
  unfold sel
  rw [List.getD_eq_getElem?_getD, List.getElem?_eq_getElem hn]
  exact h _ (List.getElem_mem hn)
theorem lit_sel (k : IntKind) (l : List Int) (n : Nat) (h : n < l.length) : ((l.map (Value.int k)).toArray : Array Value)[n]? = some (.int k (sel l n)) := by
  simp [sel, List.getElem?_eq_getElem h]
theorem lit1 (k : IntKind) (a0 : Int) (n : Nat) (h : n < 1) : (#[.int k a0] : Array Value)[n]? = some (.int k (sel [a0] n)) := by
  have := lit_sel k [a0] n h
  simpa using this
theorem lit2 (k : IntKind) (a0 a1 : Int) (n : Nat) (h : n < 2) : (#[.int k a0, .int k a1] : Array Value)[n]? = some (.int k (sel [a0, a1] n)) := by
  have := lit_sel k [a0, a1] n h
  simpa using this
theorem lit3 (k : IntKind) (a0 a1 a2 : Int) (n : Nat) (h : n < 3) : (#[.int k a0, .int k a1, .int k a2] : Array Value)[n]? = some (.int k (sel [a0, a1, a2] n)) := by
  have := lit_sel k [a0, a1, a2] n h
  simpa using this
theorem lit4 (k : IntKind) (a0 a1 a2 a3 : Int) (n : Nat) (h : n < 4) : (#[.int k a0, .int k a1, .int k a2, .int k a3] : Array Value)[n]? = some (.int k (sel [a0, a1, a2, a3] n)) := by
  have := lit_sel k [a0, a1, a2, a3] n h
  simpa using this
theorem lit5 (k : IntKind) (a0 a1 a2 a3 a4 : Int) (n : Nat) (h : n < 5) : (#[.int k a0, .int k a1, .int k a2, .int k a3, .int k a4] : Array Value)[n]? = some (.int k (sel [a0, a1, a2, a3, a4] n)) := by
  have := lit_sel k [a0, a1, a2, a3, a4] n h
  simpa using this
theorem lit6 (k : IntKind) (a0 a1 a2 a3 a4 a5 : Int) (n : Nat) (h : n < 6) : (#[.int k a0, .int k a1, .int k a2, .int k a3, .int k a4, .int k a5] : Array Value)[n]? = some (.int k (sel [a0, a1, a2, a3, a4, a5] n)) := by
  have := lit_sel k [a0, a1, a2, a3, a4, a5] n h
  simpa using this
theorem lit7 (k : IntKind) (a0 a1 a2 a3 a4 a5 a6 : Int) (n : Nat) (h : n < 7) : (#[.int k a0, .int k a1, .int k a2, .int k a3, .int k a4, .int k a5, .int k a6] : Array Value)[n]? = some (.int k (sel [a0, a1, a2, a3, a4, a5, a6] n)) := by
  have := lit_sel k [a0, a1, a2, a3, a4, a5, a6] n h
  simpa using this
theorem lit8 (k : IntKind) (a0 a1 a2 a3 a4 a5 a6 a7 : Int) (n : Nat) (h : n < 8) : (#[.int k a0, .int k a1, .int k a2, .int k a3, .int k a4, .int k a5, .int k a6, .int k a7] : Array Value)[n]? = some (.int k (sel [a0, a1, a2, a3, a4, a5, a6, a7] n)) := by
  have := lit_sel k [a0, a1, a2, a3, a4, a5, a6, a7] n h
  simpa using this
theorem lit9 (k : IntKind) (a0 a1 a2 a3 a4 a5 a6 a7 a8 : Int) (n : Nat) (h : n < 9) : (#[.int k a0, .int k a1, .int k a2, .int k a3, .int k a4, .int k a5, .int k a6, .int k a7, .int k a8] : Array Value)[n]? = some (.int k (sel [a0, a1, a2, a3, a4, a5, a6, a7, a8] n)) := by
  have := lit_sel k [a0, a1, a2, a3, a4, a5, a6, a7, a8] n h
  simpa using this
theorem lit10 (k : IntKind) (a0 a1 a2 a3 a4 a5 a6 a7 a8 a9 : Int) (n : Nat) (h : n < 10) : (#[.int k a0, .int k a1, .int k a2, .int k a3, .int k a4, .int k a5, .int k a6, .int k a7, .int k a8, .int k a9] : Array Value)[n]? = some (.int k (sel [a0, a1, a2, a3, a4, a5, a6, a7, a8, a9] n)) := by
  have := lit_sel k [a0, a1, a2, a3, a4, a5, a6, a7, a8, a9] n h
  simpa using this
theorem lit11 (k : IntKind) (a0 a1 a2 a3 a4 a5 a6 a7 a8 a9 a10 : Int) (n : Nat) (h : n < 11) : (#[.int k a0, .int k a1, .int k a2, .int k a3, .int k a4, .int k a5, .int k a6, .int k a7, .int k a8, .int k a9, .int k a10] : Array Value)[n]? = some (.int k (sel [a0, a1, a2, a3, a4, a5, a6, a7, a8, a9, a10] n)) := by
  have := lit_sel k [a0, a1, a2, a3, a4, a5, a6, a7, a8, a9, a10] n h
  simpa using this
theorem lit12 (k : IntKind) (a0 a1 a2 a3 a4 a5 a6 a7 a8 a9 a10 a11 : Int) (n : Nat) (h : n < 12) : (#[.int k a0, .int k a1, .int k a2, .int k a3, .int k a4, .int k a5, .int k a6, .int k a7, .int k a8, .int k a9, .int k a10, .int k a11] : Array Value)[n]? = some (.int k (sel [a0, a1, a2, a3, a4, a5, a6, a7, a8, a9, a10, a11] n)) := by
  have := lit_sel k [a0, a1, a2, a3, a4, a5, a6, a7, a8, a9, a10, a11] n h
  simpa using this

theorem xor_i64 (a b : Nat) (ha : a < 2 ^ 63) (hb : b < 2 ^ 63) : bits .xor .i64 (a : Int) (b : Int) = ((a ^^^ b : Nat) : Int) := by
  have hx : a ^^^ b < 2 ^ 63 := Nat.xor_lt_two_pow ha hb
  have h1 : (BitVec.ofInt 64 (a : Int)).toNat = a := by
    rw [BitVec.ofInt_natCast, BitVec.toNat_ofNat]; exact Nat.mod_eq_of_lt (by omega)
  have h2 : (BitVec.ofInt 64 (b : Int)).toNat = b := by
    rw [BitVec.ofInt_natCast, BitVec.toNat_ofNat]; exact Nat.mod_eq_of_lt (by omega)
  show IntKind.i64.wrap ((BitVec.ofInt 64 (a : Int) ^^^ BitVec.ofInt 64 (b : Int)).toNat : Int) = _
  rw [BitVec.toNat_xor, h1, h2]
  exact IntWalk.i64_in _ (by omega)
theorem xor_i64_int (a b : Int) (ha : 0 ≤ a) (ha' : a < 2 ^ 63) (hb : 0 ≤ b) (hb' : b < 2 ^ 63) : bits .xor .i64 a b = ((a.toNat ^^^ b.toNat : Nat) : Int) := by
  obtain ⟨a, rfl⟩ := Int.eq_ofNat_of_zero_le ha
  obtain ⟨b, rfl⟩ := Int.eq_ofNat_of_zero_le hb
  rw [Int.toNat_natCast, Int.toNat_natCast]
  exact xor_i64 a b (by omega) (by omega)
theorem and_i64 (a b : Nat) (ha : a < 2 ^ 63) (hb : b < 2 ^ 63) : bits .and .i64 (a : Int) (b : Int) = ((a &&& b : Nat) : Int) := by
  have hx : a &&& b < 2 ^ 63 := Nat.and_lt_two_pow a hb
  have h1 : (BitVec.ofInt 64 (a : Int)).toNat = a := by
    rw [BitVec.ofInt_natCast, BitVec.toNat_ofNat]; exact Nat.mod_eq_of_lt (by omega)
  have h2 : (BitVec.ofInt 64 (b : Int)).toNat = b := by
    rw [BitVec.ofInt_natCast, BitVec.toNat_ofNat]; exact Nat.mod_eq_of_lt (by omega)
  show IntKind.i64.wrap ((BitVec.ofInt 64 (a : Int) &&& BitVec.ofInt 64 (b : Int)).toNat : Int) = _
  rw [BitVec.toNat_and, h1, h2]
  exact IntWalk.i64_in _ (by omega)
theorem xor_nonneg (a b : Int) (ha : 0 ≤ a) (ha' : a < 2 ^ 63) (hb : 0 ≤ b) (hb' : b < 2 ^ 63) : 0 ≤ bits .xor .i64 a b := by
  rw [xor_i64_int a b ha ha' hb hb']
  exact Int.natCast_nonneg _

/-- The bytes that came in. -/
def Byts (w : World) (a : Option Addr) (len cap : Nat) : Prop :=
  len ≤ cap ∧ cap ≤ maxLen ∧ (len = 0 ∨ ∃ b off, a = some ⟨b, off, none⟩ ∧ ∀ j, j < len → ∃ c : Int, w.cell? ⟨b, off + j, none⟩ = some (.int .u8 c) ∧ 0 ≤ c ∧ c ≤ 255)
def OpenPost (T : TypeId) (w : World) (e : Ending) (w' : World) : Prop :=
  ∃ B, e = .returned (.pointer (some ⟨B, 0, none⟩)) ∧ w.heap.size ≤ B ∧ Rd T w' B 0 ∧ w.grownBy w' none

/-- v reads, in w, as the integers xs. -/
def Ints (w : World) (v : Value) (xs : List Int) : Prop :=
  ∃ (a : Option Addr) (cap : Nat), v = .slice a xs.length cap ∧ xs.length ≤ cap ∧ cap ≤ maxLen ∧
    (xs = [] ∨ ∃ b off, a = some ⟨b, off, none⟩ ∧ ∀ j (h : j < xs.length), w.cell? ⟨b, off + j, none⟩ = some (.int .i64 xs[j]))
theorem byts_nil (w : World) : Byts w none 0 0 := ⟨Nat.le_refl _, Nat.zero_le _, .inl rfl⟩
theorem addr_at {w : World} {x : Addr} {v : Value} (h : w.cell? (x.add 0) = some v) : ∃ b off, x = ⟨b, off, none⟩ := by
  obtain ⟨b, off, spot⟩ := x
  have hs : spot = none := by simpa [Addr.add] using World.cell?_spot h
  exact ⟨b, off, by rw [hs]⟩
theorem byts_of {w : World} {x : Addr} {len cap : Nat} {zs : List Int} (hl : len ≤ cap) (hm : cap ≤ maxLen) (hz : zs.length = cap) (hcell : ∀ i, i < zs.length → w.cell? (x.add i) = some (.int .u8 (zs.getD i 0))) (hw : ∀ n ∈ zs, (Lit.int .u8 n).wf = true) : Byts w (some x) len cap := by
  refine ⟨hl, hm, ?_⟩
  by_cases h0 : len = 0
  · exact .inl h0
  obtain ⟨b, off, rfl⟩ := addr_at (hcell 0 (by omega))
  refine .inr ⟨b, off, rfl, fun j hj => ⟨zs.getD j 0, by have := hcell j (by omega); rwa [Addr.add_lit] at this, ?_⟩⟩
  have hmem : zs.getD j 0 ∈ zs := by
    rw [List.getD_eq_getElem?_getD, List.getElem?_eq_getElem (by omega)]
    exact List.getElem_mem _
  have := hw _ hmem
  generalize zs.getD j 0 = n at *
  simp [Lit.wf, IntKind.min, IntKind.max, IntKind.bits, IntKind.signed] at this
  omega
theorem ints_nil (w : World) : Ints w (.slice none 0 0) [] := ⟨none, 0, rfl, Nat.le_refl _, Nat.zero_le _, .inl rfl⟩
theorem ints_of {w : World} {x : Addr} {len cap : Nat} {zs : List Int} (hl : len ≤ cap) (hm : cap ≤ maxLen) (hz : zs.length = cap) (hcell : ∀ i, i < zs.length → w.cell? (x.add i) = some (.int .i64 (zs.getD i 0))) : Ints w (.slice (some x) len cap) (zs.take len) := by
  have hlen : (zs.take len).length = len := by rw [List.length_take]; omega
  refine ⟨some x, cap, by rw [hlen], by omega, hm, ?_⟩
  by_cases h0 : len = 0
  · exact .inl (List.eq_nil_of_length_eq_zero (by omega))
  obtain ⟨b, off, rfl⟩ := addr_at (hcell 0 (by omega))
  refine .inr ⟨b, off, rfl, fun j hj => ?_⟩
  have := hcell j (by omega)
  rw [List.getElem_take]
  rw [List.getD_eq_getElem?_getD, List.getElem?_eq_getElem (by omega)] at this
  rwa [Addr.add_lit] at this
/-- An int's own bounds. -/
theorem int_bd {a : Int} (h : (Lit.int .i64 a).wf = true) : -9223372036854775808 ≤ a ∧ a ≤ 9223372036854775807 := by
  simp [Lit.wf, IntKind.min, IntKind.max, IntKind.bits, IntKind.signed] at h
  exact h
end Go.Proofs.YtbhelobahfgaeaaDoor
