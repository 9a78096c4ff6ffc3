/-
  What stands while a region whose order is open makes two rows of numbers, a claim of these, a literal of one claim, and appends it. Plain Lean over the model.
-/
import Derived.Test.YtpbihjkfbbmdjaaAppJ
import Derived.Test.YtpbihjkfbbmdjaaClaimS
import Derived.Test.YtpbihjkfbbmdjaaLoc
namespace Go.Proofs.Ytpbihjkfbbmdjaa
open Go Go.RowKit
/-- The claim's two rows and what stands for them: ga, gb their assertions; db: the aggregate is built; dl: the literal of one stands; dd: it is appended; de: the result is assigned. -/
def JG (w0 : World) (v : Value) (ys : List Clm) (y z : List Int) (Ms Ra Rb : List Asr) (db dl dd de : Bool) (a b c l r o : Value) (w : World) : Prop :=
  (de = true → o = r) ∧ (db = true → c = .agg #[a, b]) ∧
  (dd = true → St w0 w (DOwn LClm DClm r (ys ++ [⟨y, z⟩]) :: Ms)) ∧
  (dd = false → dl = true → ∃ s t : Sl, a = s.val ∧ b = t.val ∧ St w0 w (Own LClm l [(s, t)] :: DOwn LClm DClm v ys :: Own LI a y :: Own LI b z :: Ms)) ∧
  (dd = false → dl = false → St w0 w (DOwn LClm DClm v ys :: (Ra ++ (Rb ++ Ms))))
section
variable {w0 w w' : World} {v : Value} {ys : List Clm} {y z : List Int} {Ms Ra Rb Ra' Rb' : List Asr} {db dl dd de : Bool} {a b c l r o a' b' : Value}
theorem JG.start (h : St w0 w (DOwn LClm DClm v ys :: Ms)) : JG w0 v ys y z Ms [] [] false false false false a b c l r o w :=
  ⟨nofun, nofun, nofun, nofun, fun _ _ => h⟩
theorem JG.grow (h : JG w0 v ys y z Ms Ra Rb db dl dd de a b c l r o w) (g : w.grownBy w' none) : JG w0 v ys y z Ms Ra Rb db dl dd de a b c l r o w' := by
  obtain ⟨h1, h2, h3, h4, h5⟩ := h
  exact ⟨h1, h2, fun k => (h3 k).grow g, fun k k2 => (by obtain ⟨s, t, e1, e2, S⟩ := h4 k k2; exact ⟨s, t, e1, e2, S.grow g⟩), fun k k2 => (h5 k k2).grow g⟩
theorem JG.frame (h : JG w0 v ys y z Ms Ra Rb db dl dd de a b c l r o w) : ∃ Ns, St w0 w (Ns ++ Ms) := by
  obtain ⟨h1, h2, h3, h4, h5⟩ := h
  cases dd
  · cases dl
    · exact ⟨_ :: (Ra ++ Rb), by simpa [List.append_assoc] using h5 rfl rfl⟩
    · obtain ⟨s, t, e1, e2, S⟩ := h4 rfl rfl
      exact ⟨[_, _, _, _], S⟩
  · exact ⟨[_], h3 rfl⟩
theorem JG.gb (h : JG w0 v ys y z Ms Ra Rb db dl dd de a b c l r o w) : w0.grownBy w none := by
  obtain ⟨Ns, S⟩ := h.frame
  exact S.gb
theorem JG.ms (h : JG w0 v ys y z Ms Ra Rb db dl dd de a b c l r o w) : St w0 w Ms := by
  obtain ⟨Ns, S⟩ := h.frame
  exact St.drop2 S
/-- Before the literal: the rows. -/
theorem JG.rows (h : JG w0 v ys y z Ms Ra Rb db dl dd de a b c l r o w) (hl : dl = false) (hd : dd = false) : St w0 w (DOwn LClm DClm v ys :: (Ra ++ (Rb ++ Ms))) := by
  subst hl
  subst hd
  exact h.2.2.2.2 rfl rfl
theorem JG.setA (S : St w0 w (Ra' ++ (DOwn LClm DClm v ys :: (Rb ++ Ms)))) (hb : db = false) (hl : dl = false) (hd : dd = false) (he : de = false) : JG w0 v ys y z Ms Ra' Rb db dl dd de a' b c l r o w := by
  subst hb
  subst hl
  subst hd
  subst he
  exact ⟨nofun, nofun, nofun, nofun, fun _ _ => St.moveOut S⟩
theorem JG.setB (S : St w0 w (Rb' ++ (DOwn LClm DClm v ys :: (Ra ++ Ms)))) (hb : db = false) (hl : dl = false) (hd : dd = false) (he : de = false) : JG w0 v ys y z Ms Ra Rb' db dl dd de a b' c l r o w := by
  subst hb
  subst hl
  subst hd
  subst he
  refine ⟨nofun, nofun, nofun, nofun, fun _ _ => (St.moveOut S).perm ?_⟩
  refine List.Perm.cons _ ?_
  rw [← List.append_assoc, ← List.append_assoc]
  exact List.Perm.append_right _ List.perm_append_comm
theorem JG.build {c' : Value} (h : JG w0 v ys y z Ms Ra Rb db dl dd de a b c l r o w) (hl : dl = false) (hd : dd = false) (he : de = false) (hc : c' = .agg #[a, b]) : JG w0 v ys y z Ms Ra Rb true dl dd de a b c' l r o w := by
  subst hl
  subst hd
  subst he
  exact ⟨nofun, fun _ => hc, nofun, nofun, fun _ _ => h.2.2.2.2 rfl rfl⟩
theorem JG.built (h : JG w0 v ys y z Ms Ra Rb db dl dd de a b c l r o w) (hb : db = true) : c = .agg #[a, b] := h.2.1 hb
theorem JG.hb (h : JG w0 v ys y z Ms Ra Rb db dl dd de a b c l r o w) : db = true → c = .agg #[a, b] := h.2.1
theorem JG.lit (h : JG w0 v ys y z Ms Ra Rb db dl dd de a b c l r o w) (hA : Ra = [Own LI a y]) (hB : Rb = [Own LI b z]) (hl : dl = false) (hd : dd = false) (he : de = false) :
    JG w0 v ys y z Ms Ra Rb db true dd de a b c (.slice (some ⟨w.heap.size, 0, none⟩) 1 1) r o (w.alloc (.cells #[a, b] LClm.T)) := by
  subst hl
  subst hd
  subst he
  subst hA
  subst hB
  have S := h.2.2.2.2 rfl rfl
  simp only [List.cons_append, List.nil_append] at S
  obtain ⟨s, e1⟩ := (St.own S.tail).sl
  obtain ⟨t, e2⟩ := (St.own S.tail.tail).sl
  subst e1
  subst e2
  refine ⟨nofun, h.2.1, nofun, fun _ _ => ⟨s, t, rfl, rfl, St.ownLit LClm S [(s, t)] _ rfl (show 1 ≤ maxLen by decide)⟩, nofun⟩
/-- At the append: the outer row opened. -/
theorem JG.out (h : JG w0 v ys y z Ms Ra Rb db dl dd de a b c l r o w) (hl : dl = true) (hd : dd = false) :
    ∃ (xs : List (Sl × Sl)) (s t : Sl), xs.length = ys.length ∧ St w0 w (Own LClm v xs :: (inner DClm xs ys ++ (DClm.own (s, t) ⟨y, z⟩ ++ (Own LClm l [(s, t)] :: Ms)))) ∧ Rds LClm w l [(s, t)] := by
  subst hl
  subst hd
  obtain ⟨s, t, e1, e2, S⟩ := h.2.2.2.1 rfl rfl
  subst e1
  subst e2
  obtain ⟨xs, hx, S2⟩ := St.unpack (S.swap)
  refine ⟨xs, s, t, hx, S2.perm ?_, St.own S⟩
  refine List.Perm.cons _ (List.Perm.append_left _ ?_)
  show (Own LClm l [(s, t)] :: Own LI s.val y :: Own LI t.val z :: Ms).Perm (Own LI s.val y :: Own LI t.val z :: Own LClm l [(s, t)] :: Ms)
  exact (List.Perm.swap _ _ _).trans (List.Perm.cons _ (List.Perm.swap _ _ _))
theorem JG.app {xs : List (Sl × Sl)} {s t : Sl} (hx : xs.length = ys.length) (h : St w0 w' (Own LClm r (xs ++ [(s, t)]) :: (inner DClm xs ys ++ (DClm.own (s, t) ⟨y, z⟩ ++ (Own LClm l [(s, t)] :: Ms)))))
    (hb : db = true → c = .agg #[a, b]) (he : de = false) : JG w0 v ys y z Ms Ra Rb db dl true de a b c l r o w' := by
  subst he
  have S := St.dsnoc (D := DClm) (x := (s, t)) (y := ⟨y, z⟩) hx h
  exact ⟨nofun, hb, fun _ => St.tail (St.swap S), nofun, nofun⟩
theorem JG.fin (h : JG w0 v ys y z Ms Ra Rb db dl dd de a b c l r o w) (hd : dd = true) (he : de = true) : o = r ∧ St w0 w (DOwn LClm DClm r (ys ++ [⟨y, z⟩]) :: Ms) := ⟨h.1 he, h.2.2.1 hd⟩
theorem JG.asg (h : JG w0 v ys y z Ms Ra Rb db dl dd de a b c l r o w) : JG w0 v ys y z Ms Ra Rb db dl dd true a b c l r r w := ⟨fun _ => rfl, h.2⟩
end
end Go.Proofs.Ytpbihjkfbbmdjaa
