/-
  The rule for a region whose order is open (XDrawn) in the words of assertions: what an operation has left lies in blocks from H on, and no operation writes there but into blocks that it makes; the reader's pick with the block that it writes. Plain Lean over the model; one walk of the reader's pick.
-/
import Derived.Test.YtbhelobahfgaeaaDoorDrawn
import Derived.Test.YtbhelobahfgaeaaDoorRdr
namespace Go.Proofs.YtbhelobahfgaeaaDoor
open Go Go.RowKit
/-- What lies from H on is as it was; new blocks may have come. -/
def lowB (H : Nat) (w w' : World) : Prop := w.heap.size ≤ w'.heap.size ∧ ∀ g, H ≤ g → g < w.heap.size → w'.heap[g]? = w.heap[g]?
theorem lowB.refl (H : Nat) (w : World) : lowB H w w := ⟨Nat.le_refl _, fun _ _ _ => rfl⟩
theorem lowB.trans {H : Nat} {w w1 w2 : World} (h : lowB H w w1) (k : lowB H w1 w2) : lowB H w w2 := ⟨Nat.le_trans h.1 k.1, fun g hg hl => (k.2 g hg (Nat.lt_of_lt_of_le hl h.1)).trans (h.2 g hg hl)⟩
theorem lowB.of {H : Nat} {w w' : World} {row : Option Nat} (h : w.grownBy w' row) (hr : ∀ b, row = some b → b < H) : lowB H w w' :=
  ⟨h.size, fun g hg hl => h.block g hl (fun e => by have := hr g e.symm; omega)⟩
theorem lowB.set (H : Nat) (w : World) {b : Nat} (hb : b < H) (o : Nat) (v : Value) : lowB H w (w.setCell ⟨b, o, none⟩ v) := lowB.of (gb_set1 w b o v) (fun c hc => by rw [← Option.some.inj hc]; exact hb)
theorem lowB.new (H : Nat) (w : World) (o : Obj) : lowB H w (w.alloc o) := lowB.of (World.grownBy_alloc w o none) (by simp)
theorem lowB.cell {H : Nat} {w w' : World} (h : lowB H w w') {g o : Nat} {v : Value} (hg : H ≤ g) (hc : w.cell? ⟨g, o, none⟩ = some v) : w'.cell? ⟨g, o, none⟩ = some v := by
  rw [← hc]
  exact World.cell?_of_block (a := ⟨g, o, none⟩) (h.2 g hg (cell_lt hc))
theorem St.rdrLt {w0 w : World} {B m : Nat} {Ls : List Asr} (S : St w0 w (Rdr w0 B m :: Ls)) : w0.heap.size ≤ B ∧ B < w.heap.size := by
  obtain ⟨F, ⟨_, rfl⟩, h⟩ := S.head
  exact h B (by simp)
def PickG (w0 : World) (B m : Nat) (Ls : List Asr) (n : Int) (w : World) (e : Ending) (w' : World) : Prop :=
  ∃ v : Int, e = .returned (.int .i64 v) ∧ Pk n v ∧ St w0 w' (Rdr w0 B (m + 1) :: Ls) ∧ w.grownBy w' (some B)
set_option maxHeartbeats 1000000 in
theorem pick_g (w0 : World) (B m : Nat) (Ls : List Asr) (n : Int) (w : World) (S : St w0 w (Rdr w0 B m :: Ls)) (hm : m ≤ 1000000) :
    Calls Tryd.prog 39 #[.pointer (some ⟨B, 0, none⟩), .int .i64 n] w (PickG w0 B m Ls n w) := by
  have Hg := Lib.hid S.gb
  obtain ⟨F, ⟨⟨ca, len, cap, p, h1, h2, h3, hb, hc⟩, rfl⟩, hF, hw⟩ := S.writeBy
  have hBl := (hF B (by simp)).1
  have hBs := (hF B (by simp)).2
  have c0 : w.cell? ⟨B, 0, none⟩ = some (.slice ca len cap) := by simp [World.cell?, hb]
  have c1 : w.cell? ⟨B, 1, none⟩ = some (.int .i64 p) := by simp [World.cell?, hb]
  have f1 : w.frozen? ⟨B, 1, none⟩ = false := by simp [World.frozen?, hb]
  have H := Lib.hid hb
  have hset : (w.setCell ⟨B, 1, none⟩ (.int .i64 (p + 1))).heap[B]? = some (.cells #[.slice ca len cap, .int .i64 (p + 1)] 63 (0, 0)) := by
    simp [World.setCell, Array.getElem?_modify, hb]
  have hgs : w.grownBy (w.setCell ⟨B, 1, none⟩ (.int .i64 (p + 1))) (some B) := gb_setCell (World.grownBy.refl _ _) 1 _
  have post : ∀ v nq, Pk n v → PickG w0 B m Ls n w (.returned (.int .i64 v)) ((w.setCell ⟨B, 1, none⟩ (.int .i64 (p + 1))).drewN nq) := by
    intro v nq hp
    exact ⟨v, rfl, hp, hw _ (Rdr w0 B (m + 1)) [B] (some B) (gb_drewN hgs nq) (by simp) ⟨⟨ca, len, cap, p + 1, by omega, by omega, h3, hset, hc⟩, rfl⟩ (by simp), gb_drewN hgs nq⟩
  have Post := Lib.hid post
  have hc' : len = 0 ∨ ∃ b off, ca = some ⟨b, off, none⟩ ∧ b < B ∧ ∀ j, j < len → ∃ c : Int, w.cell? ⟨b, off + j, none⟩ = some (.int .u8 c) ∧ 0 ≤ c ∧ c ≤ 255 := by
    rcases hc with hc | ⟨b, off, ha, hlt, hc⟩
    · exact .inl hc
    · refine .inr ⟨b, off, ha, by omega, fun j hj => ?_⟩
      obtain ⟨c, hc, hr⟩ := hc j hj
      exact ⟨c, gb_cell Hg.out hc (by simp), hr⟩
  clear post hgs hset hb hw hF S hc
  have hp2 : p ≤ 1000000 := by omega
  by_cases hn : n < 1
  · have Hc := Lib.hid hc'
    clear hc' h2 hm
    go_enter Tryd.func39, Tryd.ntmps39
    go_wp2
    go_ret
    exact Post.out 0 0 ⟨by omega, by omega, by omega⟩
  · rcases hc' with rfl | ⟨b, off, rfl, hne, hc⟩
    · clear h2 hm
      go_enter Tryd.func39, Tryd.ntmps39
      go_wp2
      go_ret
      exact Post.out 0 0 ⟨by omega, by omega, by omega⟩
    · by_cases h0 : len = 0
      · subst h0
        clear h2 hm hc
        go_enter Tryd.func39, Tryd.ntmps39
        go_wp2
        go_ret
        exact Post.out 0 0 ⟨by omega, by omega, by omega⟩
      have hz : ((len : Int) == 0) = false := by simpa using h0
      obtain ⟨q, rfl⟩ := Int.eq_ofNat_of_zero_le h1
      by_cases hlt : (q : Int) < len
      · obtain ⟨c, hc1, hc2, hc3⟩ := hc q (by omega)
        clear hc h2 hm
        go_enter Tryd.func39, Tryd.ntmps39
        go_wp2
        go_ret
        exact Post.out _ 0 ⟨Int.emod_nonneg _ (by omega), fun _ => Int.emod_lt_of_pos _ (by omega), by omega⟩
      · obtain ⟨c, hc1, hc2, hc3⟩ := hc (q % len) (Nat.mod_lt _ (by omega))
        obtain ⟨d, hd1, hd2, hd3⟩ := hc ((q * 7 + 3) % len) (Nat.mod_lt _ (by omega))
        have i0 : (0 : Int) ≤ (q : Int) % len := by omega
        have i1 : (q : Int) % len < len := Int.emod_lt_of_pos _ (by omega)
        have i2 : (0 : Int) ≤ ((q : Int) * 7 + 3) % len := Int.emod_nonneg _ (by omega)
        have i3 : ((q : Int) * 7 + 3) % len < len := Int.emod_lt_of_pos _ (by omega)
        have i4 : (0 : Int) ≤ (q : Int) / len := Int.ediv_nonneg (by omega) (by omega)
        have i5 : (q : Int) / len ≤ q := Int.ediv_le_self _ (by omega)
        clear hc h2 hm
        go_enter Tryd.func39, Tryd.ntmps39
        go_wp2
        go_quiet (fail)
        go_wp2
        go_ret
        refine Post.out _ _ ⟨Int.tmod_nonneg _ (xor_nonneg _ _ (by omega) (by omega) (by omega) (by omega)), fun _ => ?_, by omega⟩
        rw [Int.tmod_eq_emod_of_nonneg (xor_nonneg _ _ (by omega) (by omega) (by omega) (by omega))]
        exact Int.emod_lt_of_pos _ (by omega)
set_option maxHeartbeats 400000 in
theorem open_g (w0 : World) (Ls : List Asr) (a : Option Addr) (len cap : Nat) (w : World) (S : St w0 w Ls) (h : Byts w0 a len cap) :
    Calls Tryd.prog 29 #[.slice a len cap] w fun e w' => ∃ B, e = .returned (.pointer (some ⟨B, 0, none⟩)) ∧ St w0 w' (Rdr w0 B 0 :: Ls) := by
  obtain ⟨h1, h2, hc⟩ := h
  unfold maxLen at h2
  have post : ∀ (l c : Nat), l ≤ len → l ≤ 2000 → ∃ B, (Ending.returned (.pointer (some ⟨w.heap.size, 0, none⟩))) = .returned (.pointer (some ⟨B, 0, none⟩)) ∧ St w0 (w.alloc (.cells #[.slice a l c, .int .i64 0] 63)) (Rdr w0 B 0 :: Ls) := by
    intro l c hl h20
    refine ⟨w.heap.size, rfl, S.push (World.grownBy_alloc _ _ _) (F := [w.heap.size]) ⟨⟨a, l, c, 0, by omega, by omega, h20, heap_alloc_new w _, ?_⟩, rfl⟩ (by simp)⟩
    rcases hc with hc | ⟨b, off, rfl, hc⟩
    · exact .inl (by omega)
    · by_cases h0 : l = 0
      · exact .inl h0
      refine .inr ⟨b, off, rfl, ?_, fun j hj => hc j (by omega)⟩
      obtain ⟨c, hc, _⟩ := hc 0 (by omega)
      exact cell_lt hc
  have Post := Lib.hid post
  clear post hc
  by_cases hl : 2000 < len
  · go_enter Tryd.func29, Tryd.ntmps29
    go_wp2
    go_ret
    exact Post.out 2000 cap (by omega) (by omega)
  · go_enter Tryd.func29, Tryd.ntmps29
    go_wp2
    go_ret
    exact Post.out len cap (by omega) (by omega)
section
variable {P : Program} {ops : Array Oper} {Q : Exit → Act → World → Prop}
/-- Each operation's own obligation. -/
def StepAll2 (P : Program) (ops : Array Oper) (Q : Exit → Act → World → Prop) (A : Nat → Value → World → Prop) (J : Nat → World → Prop) (H : Nat) (a0 : Act) : List Oper → Nat → Prop
  | [], _ => True
  | o :: rest, i => (∀ k a w, k < ops.size → J k w → a.defers = a0.defers → Seen ops A a0 i a w → ∀ K : Act → World → Prop,
      RowKit.Hid (∀ v w', A i (if o.dst.isSome then v else undef) w' → J (k + 1) w' → lowB H w w' → K (a.put o.dst v) w') →
      if Region.wanted o (yielded ops a.tmps) then o.wp P a w K Q else K (a.put o.dst undef) w) ∧ StepAll2 P ops Q A J H a0 rest (i + 1)

theorem StepAll2.at {A : Nat → Value → World → Prop} {J : Nat → World → Prop} {H : Nat} {a0 : Act} : ∀ (l : List Oper) (n : Nat), StepAll2 P ops Q A J H a0 l n → ∀ (i : Nat) (o : Oper), l[i]? = some o → ∀ k a w, k < ops.size → J k w → a.defers = a0.defers → Seen ops A a0 (n + i) a w → ∀ K : Act → World → Prop,
      RowKit.Hid (∀ v w', A (n + i) (if o.dst.isSome then v else undef) w' → J (k + 1) w' → lowB H w w' → K (a.put o.dst v) w') →
      if Region.wanted o (yielded ops a.tmps) then o.wp P a w K Q else K (a.put o.dst undef) w
  | [], _, _, i, o, h => by simp at h
  | x :: l, n, hs, 0, o, h => by
    obtain rfl : x = o := by simpa using h
    exact hs.1
  | x :: l, n, hs, i + 1, o, h => by
    have := StepAll2.at l (n + 1) hs.2 i o (by simpa using h)
    rw [Nat.add_assoc, Nat.add_comm 1 i] at this
    exact this

theorem step_plain2 {A : Nat → Value → World → Prop} {J : Nat → World → Prop} {H : Nat} {a0 : Act} {o : Oper} {rest : List Oper} {i : Nat} (hg : o.guard = none)
    (h : ∀ k a w, k < ops.size → J k w → a.defers = a0.defers → Seen ops A a0 i a w → ∀ K : Act → World → Prop,
      RowKit.Hid (∀ v w', A i (if o.dst.isSome then v else undef) w' → J (k + 1) w' → lowB H w w' → K (a.put o.dst v) w') → o.wp P a w K Q)
    (hr : StepAll2 P ops Q A J H a0 rest (i + 1)) : StepAll2 P ops Q A J H a0 (o :: rest) i :=
  ⟨fun k a w h1 h2 h3 h4 K hK => by rw [if_pos (by simp [Region.wanted, hg])]; exact h k a w h1 h2 h3 h4 K hK, hr⟩
/-- A guarded operation whose guard is known to hold. -/
theorem step_guard2 {A : Nat → Value → World → Prop} {J : Nat → World → Prop} {H : Nat} {a0 : Act} {o : Oper} {rest : List Oper} {i : Nat} (j d : Nat) (b : Bool) (hg : o.guard = some (j, b)) (hd : dstOf ops j = some d)
    (hv : ∀ a w, Seen ops A a0 i a w → a.tmps[d]?.getD undef = .bool b)
    (h : ∀ k a w, k < ops.size → J k w → a.defers = a0.defers → Seen ops A a0 i a w → ∀ K : Act → World → Prop,
      RowKit.Hid (∀ v w', A i (if o.dst.isSome then v else undef) w' → J (k + 1) w' → lowB H w w' → K (a.put o.dst v) w') → o.wp P a w K Q)
    (hr : StepAll2 P ops Q A J H a0 rest (i + 1)) : StepAll2 P ops Q A J H a0 (o :: rest) i :=
  ⟨fun k a w h1 h2 h3 h4 K hK => by rw [if_pos (by rw [wanted_at hg hd (hv a w h4)]; simp)]; exact h k a w h1 h2 h3 h4 K hK, hr⟩
/-- A guarded operation whose guard is known not to hold. -/
theorem step_skip2 {A : Nat → Value → World → Prop} {J : Nat → World → Prop} {H : Nat} {a0 : Act} {o : Oper} {rest : List Oper} {i : Nat} (j d : Nat) (b : Bool) (hg : o.guard = some (j, b)) (hd : dstOf ops j = some d)
    (hv : ∀ a w, Seen ops A a0 i a w → a.tmps[d]?.getD undef = .bool (!b))
    (h : ∀ k w, k < ops.size → J k w → A i undef w ∧ J (k + 1) w)
    (hr : StepAll2 P ops Q A J H a0 rest (i + 1)) : StepAll2 P ops Q A J H a0 (o :: rest) i :=
  ⟨fun k a w h1 h2 h3 h4 K hK => by
    rw [if_neg (by rw [wanted_at hg hd (hv a w h4)]; cases b <;> simp)]
    exact hK.out undef w (by simpa using (h k w h1 h2).1) (h k w h1 h2).2 (lowB.refl _ _), hr⟩
theorem step_nil2 {A : Nat → Value → World → Prop} {J : Nat → World → Prop} {H : Nat} {a0 : Act} {i : Nat} : StepAll2 P ops Q A J H a0 [] i := trivial

theorem steps_of2 {l : List Oper} {A : Nat → Value → World → Prop} {J : Nat → World → Prop} {H : Nat} {a0 : Act} (hst : ∀ j v w w', A j v w → lowB H w w' → A j v w') (step : StepAll2 P l.toArray Q A J H a0 l 0) :
    ∀ i o, l.toArray[i]? = some o → ∀ k a w, k < l.toArray.size → J k w → a.defers = a0.defers → Seen l.toArray A a0 i a w →
      wpOp P l.toArray Q i (fun a' w' => ∃ v, a' = a.put o.dst v ∧ A i (if o.dst.isSome then v else undef) w' ∧ J (k + 1) w' ∧ ∀ j u, A j u w → A j u w') a w := by
  intro i o ho k a w hk hJ hd hs
  have hl : l[i]? = some o := by simpa using ho
  have hat := StepAll2.at l 0 step i o hl k a w hk hJ hd (by rw [Nat.zero_add]; exact hs)
    (fun a' w' => ∃ v, a' = a.put o.dst v ∧ A i (if o.dst.isSome then v else undef) w' ∧ J (k + 1) w' ∧ ∀ j u, A j u w → A j u w')
    (fun v w' hA hJ' hg => ⟨v, rfl, by rw [Nat.zero_add] at hA; exact hA, hJ', fun j u hu => hst j u w w' hu hg⟩)
  unfold wpOp
  simp only [ho]
  split
  · rename_i hw
    rw [if_pos hw] at hat
    exact .inl hat
  · rename_i hw
    rw [if_neg hw] at hat
    exact hat
/-- THE RULE, on the region as the program has it. -/
theorem wp_drawn_list2 {id : Nat} {l : List Oper} {a0 : Act} {w0 : World} (A : Nat → Value → World → Prop) (J : Nat → World → Prop) (H : Nat) (hm : P.follows .mixedOrders = true) (hf : fine l.toArray a0.tmps.size = true)
    (hst : ∀ j v w w', A j v w → lowB H w w' → A j v w') (h0 : J 0 w0.drew)
    (step : StepAll2 P l.toArray Q A J H a0 l 0)
    (fin : ∀ a' w', J l.length w' → (∀ i, i < l.length → A i (slotOf l.toArray i a') w') → (∀ t, ((List.range l.toArray.size).all fun j => !(dstOf l.toArray j == some t)) = true → a'.tmps.getD t undef = a0.tmps.getD t undef) → a'.tmps.size = a0.tmps.size → a'.defers = a0.defers → Q .normal a' w') :
    (Code.region id l.toArray true).wp P Q a0 w0 :=
  wp_drawn (A := A) (J := J) hm hf h0 (steps_of2 hst step) (fin_of fin)

/-- The same for a region in the text's order. -/
theorem wp_plain_list2 {id : Nat} {l : List Oper} {a0 : Act} {w0 : World} (A : Nat → Value → World → Prop) (J : Nat → World → Prop) (H : Nat) (_hm : P.follows .mixedOrders = true) (hf : fine l.toArray a0.tmps.size = true)
    (hst : ∀ j v w w', A j v w → lowB H w w' → A j v w') (h0 : J 0 w0)
    (step : StepAll2 P l.toArray Q A J H a0 l 0)
    (fin : ∀ a' w', J l.length w' → (∀ i, i < l.length → A i (slotOf l.toArray i a') w') → (∀ t, ((List.range l.toArray.size).all fun j => !(dstOf l.toArray j == some t)) = true → a'.tmps.getD t undef = a0.tmps.getD t undef) → a'.tmps.size = a0.tmps.size → a'.defers = a0.defers → Q .normal a' w') :
    (Code.region id l.toArray false).wp P Q a0 w0 := by
  refine wp_region ?_
  rw [List.range_eq_range']
  refine mid_order (A := A) (J := J) hf ?_ ?_ _ 0 a0 w0 (by omega) ⟨by simp [firsts], ?_, h0, ?_, fun _ _ _ => rfl, fun _ _ => rfl, rfl, rfl⟩
  · exact steps_of2 hst step
  · exact fin_of fin
  · intro j o ho hl
    have hlt : j < l.toArray.size := (Array.getElem?_eq_some_iff.1 ho).1
    rw [firsts_get _ _ _ _ hlt] at hl
    simp at hl
  · intro j hj hl
    rw [firsts_get _ _ _ _ hj] at hl
    simp at hl

/-- What a slot holds, said so that it stays true behind whatever leaves all blocks but 'H' alone. -/
structure Sh2 (H : Nat) where
  p : Value → World → Prop
  st : ∀ v w w', p v w → lowB H w w' → p v w'
def sh2Top (H : Nat) : Sh2 H := ⟨fun _ _ => True, fun _ _ _ _ _ => trivial⟩
def sh2Val (H : Nat) (x : Value) : Sh2 H := ⟨fun v _ => v = x, fun _ _ _ h _ => h⟩
def sh2Int (H : Nat) : Sh2 H := ⟨fun v _ => ∃ x : Int, v = .int .i64 x, fun _ _ _ h _ => h⟩
def sh2In (H : Nat) (lo hi : Int) : Sh2 H := ⟨fun v _ => ∃ x : Int, v = .int .i64 x ∧ lo ≤ x ∧ x ≤ hi, fun _ _ _ h _ => h⟩
def sh2Bool (H : Nat) : Sh2 H := ⟨fun v _ => ∃ x : Bool, v = .bool x, fun _ _ _ h _ => h⟩
/-- The address of an integer in lo..hi. -/
def sh2Ptr (H : Nat) (lo hi : Int) : Sh2 H := ⟨fun v w => ∃ (g o : Nat) (x : Int), v = .pointer (some ⟨g, o, none⟩) ∧ H ≤ g ∧ w.cell? ⟨g, o, none⟩ = some (.int .i64 x) ∧ lo ≤ x ∧ x ≤ hi,
  fun _ _ _ ⟨g, o, x, h1, h2, h3, h4⟩ hg => ⟨g, o, x, h1, h2, lowB.cell hg h2 h3, h4⟩⟩
/-- A literal slice of n integers in lo..hi. -/
def sh2Row (H : Nat) (n : Nat) (lo hi : Int) : Sh2 H := ⟨fun v w => ∃ g : Nat, v = .slice (some ⟨g, 0, none⟩) n n ∧ H ≤ g ∧ ∀ j, j < n → ∃ x : Int, w.cell? ⟨g, j, none⟩ = some (.int .i64 x) ∧ lo ≤ x ∧ x ≤ hi,
  fun _ _ _ ⟨g, h1, h2, h3⟩ hg => ⟨g, h1, h2, fun j hj => let ⟨x, hx, hr⟩ := h3 j hj; ⟨x, lowB.cell hg h2 hx, hr⟩⟩⟩
/-- The shapes of a region's slots, in the order of its operations. -/
def shs2 (H : Nat) (l : List (Sh2 H)) (i : Nat) : Value → World → Prop := (l.getD i (sh2Top H)).p
theorem shs2_st (H : Nat) (l : List (Sh2 H)) : ∀ j v w w', shs2 H l j v w → lowB H w w' → shs2 H l j v w' := fun j v w w' h hg => (l.getD j (sh2Top H)).st v w w' h hg

/-- THE RULES, as they are used: the frame behind the region is the old one with its slots written anew. -/
theorem wp_drawn_put2 {id : Nat} {l : List Oper} {a0 : Act} {w0 : World} (A : Nat → Value → World → Prop) (J : Nat → World → Prop) (H : Nat) (hm : P.follows .mixedOrders = true) (hf : fine l.toArray a0.tmps.size = true)
    (hst : ∀ j v w w', A j v w → lowB H w w' → A j v w') (h0 : J 0 w0.drew) (step : StepAll2 P l.toArray Q A J H a0 l 0)
    (fin : ∀ (vs : Nat → Value) w', J l.length w' → (∀ i, i < l.length → A i (vs i) w') → Q .normal (putAll l vs 0 a0) w') : (Code.region id l.toArray true).wp P Q a0 w0 :=
  wp_drawn_list2 A J H hm hf hst h0 step (fin_put hf fin)
theorem wp_plain_put2 {id : Nat} {l : List Oper} {a0 : Act} {w0 : World} (A : Nat → Value → World → Prop) (J : Nat → World → Prop) (H : Nat) (hm : P.follows .mixedOrders = true) (hf : fine l.toArray a0.tmps.size = true)
    (hst : ∀ j v w w', A j v w → lowB H w w' → A j v w') (h0 : J 0 w0) (step : StepAll2 P l.toArray Q A J H a0 l 0)
    (fin : ∀ (vs : Nat → Value) w', J l.length w' → (∀ i, i < l.length → A i (vs i) w') → Q .normal (putAll l vs 0 a0) w') : (Code.region id l.toArray false).wp P Q a0 w0 :=
  wp_plain_list2 A J H hm hf hst h0 step (fin_put hf fin)
end
end Go.Proofs.YtbhelobahfgaeaaDoor
