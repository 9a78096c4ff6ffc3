/-
  Valid programs are forests: plain commands and repetitions; what a forest executes. Plain Lean.
-/
import Derived.Test.YtbhelobahfgaeaaCmdWalk
namespace Go.Proofs.Ytbhelobahfgaeaa
open Go Go.RowKit
inductive Fo where
  | nil : Fo
  | one (c : Cmd) (r : Fo) : Fo
  | rep (c e : Cmd) (b r : Fo) : Fo
namespace Fo
def flat : Fo → List Cmd
  | nil => []
  | one c r => c :: r.flat
  | rep c e b r => c :: (b.flat ++ e :: r.flat)
def wf : Fo → Prop
  | nil => True
  | one c r => cmdB c = true ∧ c.Kind ≠ 5 ∧ c.Kind ≠ 6 ∧ r.wf
  | rep c e b r => cmdB c = true ∧ cmdB e = true ∧ c.Kind = 5 ∧ e.Kind = 6 ∧ b.wf ∧ r.wf
def size : Fo → Nat
  | nil => 0
  | one _ r => r.size + 1
  | rep _ _ b r => b.size + r.size + 1
def exp : Fo → List Cmd
  | nil => []
  | one c r => c :: r.exp
  | rep c _ b r => (List.replicate c.A.toNat b.exp).flatten ++ r.exp
end Fo
def Ends (l : List Cmd) : Prop := ∀ (c : Cmd), l[0]? = some c → c.Kind = 6
theorem Ends.nil : Ends [] := by intro c h; simp at h
/-- Every valid list is a forest with ends between. -/
theorem forest_of : ∀ (xs : List Cmd) (d : Int), 0 ≤ d → progGo xs d = true → ∃ (F : Fo) (gs : List (Cmd × Fo)), F.wf ∧ (gs.length : Int) = d ∧ (∀ g ∈ gs, cmdB g.1 = true ∧ g.1.Kind = 6 ∧ g.2.wf) ∧ xs = F.flat ++ (gs.map (fun g => g.1 :: g.2.flat)).flatten
  | [], d, _, h => by
    simp only [progGo, beq_iff_eq] at h
    exact ⟨.nil, [], trivial, by simp [h], by simp, by simp [Fo.flat]⟩
  | c :: cs, d, hd, h => by
    simp only [progGo, Bool.and_eq_true, Bool.not_eq_true', decide_eq_false_iff_not] at h
    obtain ⟨h1, h2, h3⟩ := h
    by_cases k5 : c.Kind = 5
    · have e : dep c d = d + 1 := by simp [dep, k5]
      rw [e] at h3
      obtain ⟨F, gs, hF, hl, hg, rfl⟩ := forest_of cs (d + 1) (by omega) h3
      cases gs with
      | nil => simp at hl; omega
      | cons g gs =>
        obtain ⟨e1, G⟩ := g
        obtain ⟨q1, q2, q3⟩ := hg (e1, G) (by simp)
        refine ⟨.rep c e1 F G, gs, ⟨h1, q1, k5, q2, hF, q3⟩, by simp at hl; omega, fun g hg' => hg g (by simp [hg']), ?_⟩
        simp [Fo.flat]
    · by_cases k6 : c.Kind = 6
      · have e : dep c d = d - 1 := by simp [dep, k6]
        rw [e] at h3 h2
        obtain ⟨F, gs, hF, hl, hg, rfl⟩ := forest_of cs (d - 1) (by omega) h3
        refine ⟨.nil, (c, F) :: gs, trivial, by simp; omega, ?_, by simp [Fo.flat]⟩
        intro g hg'
        rcases List.mem_cons.1 hg' with rfl | hg'
        · exact ⟨h1, k6, hF⟩
        · exact hg g hg'
      · have e : dep c d = d := by simp [dep, k5, k6]
        rw [e] at h3
        obtain ⟨F, gs, hF, hl, hg, rfl⟩ := forest_of cs d hd h3
        exact ⟨.one c F, gs, ⟨h1, k5, k6, hF⟩, hl, hg, by simp [Fo.flat]⟩
theorem forest_at {xs : List Cmd} (h : progB xs = true) : ∃ F : Fo, F.wf ∧ F.flat = xs := by
  simp only [progB, Bool.and_eq_true] at h
  obtain ⟨F, gs, hF, hl, -, e⟩ := forest_of xs 0 (by omega) h.2
  have : gs = [] := List.length_eq_zero_iff.1 (by omega)
  subst this
  exact ⟨F, hF, by rw [e]; simp⟩
/-- .. and one alone. -/
theorem forest_one : ∀ (F G : Fo) (a b : List Cmd), F.wf → G.wf → Ends a → Ends b → F.flat ++ a = G.flat ++ b → F = G ∧ a = b
  | .nil, .nil, a, b, _, _, _, _, h => ⟨rfl, by simpa [Fo.flat] using h⟩
  | .nil, .one c r, a, b, _, hG, ha, _, h => by
    simp only [Fo.flat, List.nil_append, List.cons_append] at h
    subst h
    exact absurd (ha c rfl) hG.2.2.1
  | .nil, .rep c e b' r, a, b, _, hG, ha, _, h => by
    simp only [Fo.flat, List.nil_append, List.cons_append] at h
    subst h
    have := ha c rfl
    have := hG.2.2.1
    omega
  | .one c r, .nil, a, b, hF, _, _, hb, h => by
    simp only [Fo.flat, List.nil_append, List.cons_append] at h
    subst h
    exact absurd (hb c rfl) hF.2.2.1
  | .rep c e b' r, .nil, a, b, hF, _, _, hb, h => by
    simp only [Fo.flat, List.nil_append, List.cons_append] at h
    subst h
    have := hb c rfl
    have := hF.2.2.1
    omega
  | .one c r, .one c' r', a, b, hF, hG, ha, hb, h => by
    simp only [Fo.flat, List.cons_append, List.cons.injEq] at h
    obtain ⟨rfl, h⟩ := h
    obtain ⟨rfl, rfl⟩ := forest_one r r' a b hF.2.2.2 hG.2.2.2 ha hb h
    exact ⟨rfl, rfl⟩
  | .one c r, .rep c' e' b' r', a, b, hF, hG, ha, hb, h => by
    simp only [Fo.flat, List.cons_append, List.cons.injEq] at h
    obtain ⟨rfl, h⟩ := h
    exact absurd hG.2.2.1 hF.2.1
  | .rep c e b' r, .one c' r', a, b, hF, hG, ha, hb, h => by
    simp only [Fo.flat, List.cons_append, List.cons.injEq] at h
    obtain ⟨rfl, h⟩ := h
    exact absurd hF.2.2.1 hG.2.1
  | .rep c e b1 r, .rep c' e' b2 r', a, b, hF, hG, ha, hb, h => by
    simp only [Fo.flat, List.cons_append, List.cons.injEq, List.append_assoc] at h
    obtain ⟨rfl, h⟩ := h
    obtain ⟨rfl, h7⟩ := forest_one b1 b2 _ _ hF.2.2.2.2.1 hG.2.2.2.2.1 (by intro c hc; simp at hc; rw [← hc]; exact hF.2.2.2.1) (by intro c hc; simp at hc; rw [← hc]; exact hG.2.2.2.1) h
    obtain ⟨rfl, h8⟩ := List.cons.inj h7
    obtain ⟨rfl, rfl⟩ := forest_one r r' a b hF.2.2.2.2.2 hG.2.2.2.2.2 ha hb h8
    exact ⟨rfl, rfl⟩
theorem forest_uniq {F G : Fo} (hF : F.wf) (hG : G.wf) (h : F.flat = G.flat) : F = G := (forest_one F G [] [] hF hG Ends.nil Ends.nil (by simpa using h)).1
theorem Fo.flat_len (F : Fo) : F.size ≤ F.flat.length := by
  induction F with
  | nil => simp [Fo.size]
  | one c r ih => simp [Fo.size, Fo.flat]; omega
  | rep c e b r ih1 ih2 => simp [Fo.size, Fo.flat]; omega
open Classical in
noncomputable def parseF (xs : List Cmd) : Fo := if h : ∃ F : Fo, F.wf ∧ F.flat = xs then h.choose else .nil
theorem parseF_ok {xs : List Cmd} (h : progB xs = true) : (parseF xs).wf ∧ (parseF xs).flat = xs := by
  have h2 := forest_at h
  rw [parseF, dif_pos h2]
  exact h2.choose_spec
theorem parseF_eq {xs : List Cmd} {F : Fo} (hF : F.wf) (h : F.flat = xs) : parseF xs = F := by
  have h2 : ∃ F : Fo, F.wf ∧ F.flat = xs := ⟨F, hF, h⟩
  rw [parseF, dif_pos h2]
  exact forest_uniq h2.choose_spec.1 hF (h2.choose_spec.2.trans h.symm)
def okL (l : List Cmd) : Bool := decide (l.length ≤ 500)
noncomputable def expandOk (xs : List Cmd) : Bool := progB xs && okL (parseF xs).exp
noncomputable def expandL (xs : List Cmd) : List Cmd := if expandOk xs then (parseF xs).exp else []
theorem expandL_len (xs : List Cmd) : (expandL xs).length ≤ 500 := by
  unfold expandL
  split
  · rename_i h
    simp only [expandOk, okL, Bool.and_eq_true, decide_eq_true_eq] at h
    exact h.2
  · simp
theorem progB_len {xs : List Cmd} (h : progB xs = true) : xs.length ≤ 30 := by
  simp only [progB, Bool.and_eq_true, decide_eq_true_eq] at h
  exact h.1
/-- Which end a repetition has. -/
def matchGo : List Cmd → Int → Nat → Nat
  | [], _, k => k
  | c :: cs, d, k => if c.Kind = 5 then matchGo cs (d + 1) (k + 1) else if c.Kind = 6 then (if d - 1 = 0 then k else matchGo cs (d - 1) (k + 1)) else matchGo cs d (k + 1)
theorem matchGo_flat : ∀ (F : Fo) (l : List Cmd) (d : Int) (k : Nat), F.wf → 1 ≤ d → matchGo (F.flat ++ l) d k = matchGo l d (k + F.flat.length)
  | .nil, l, d, k, _, _ => by simp [Fo.flat]
  | .one c r, l, d, k, hF, hd => by
    simp only [Fo.flat, List.cons_append, matchGo, if_neg hF.2.1, if_neg hF.2.2.1]
    rw [matchGo_flat r l d (k + 1) hF.2.2.2 hd]
    congr 1
    simp; omega
  | .rep c e b r, l, d, k, hF, hd => by
    have k6 : ¬ e.Kind = 5 := by have := hF.2.2.2.1; omega
    simp only [Fo.flat, List.cons_append, List.append_assoc, matchGo, if_pos hF.2.2.1]
    rw [matchGo_flat b _ (d + 1) (k + 1) hF.2.2.2.2.1 (by omega)]
    simp only [List.cons_append, matchGo, if_neg k6, if_pos hF.2.2.2.1]
    rw [if_neg (by omega), matchGo_flat r l _ _ hF.2.2.2.2.2 (by omega)]
    rw [show d + 1 - 1 = d by omega]
    congr 1
    simp; omega
theorem matchGo_rep {c e : Cmd} {b : Fo} {l : List Cmd} (k : Nat) (hc : c.Kind = 5) (he : e.Kind = 6) (hb : b.wf) : matchGo (c :: (b.flat ++ e :: l)) 0 k = k + 1 + b.flat.length := by
  have k6 : ¬ e.Kind = 5 := by omega
  rw [matchGo, if_pos hc, matchGo_flat b _ _ _ hb (by omega), matchGo, if_neg k6, if_pos he, if_pos (by omega)]
theorem cmdB_rep {c : Cmd} (h : cmdB c = true) (hc : c.Kind = 5) : 1 ≤ c.A ∧ c.A ≤ 99 := by
  unfold cmdB at h
  rw [if_neg (by omega), if_pos (Or.inr hc), Bool.and_eq_true] at h
  exact inB_t.1 h.1
theorem rep_len (n : Nat) (l : List Cmd) : ((List.replicate n l).flatten).length = n * l.length := by
  rw [List.length_flatten]
  simp
theorem rep_succ (n : Nat) (l : List Cmd) : (List.replicate (n + 1) l).flatten = (List.replicate n l).flatten ++ l := by
  rw [List.replicate_succ']
  simp
theorem exp_len_rep (c e : Cmd) (b r : Fo) : (Fo.rep c e b r).exp.length = c.A.toNat * b.exp.length + r.exp.length := by
  rw [Fo.exp, List.length_append, rep_len]
end Go.Proofs.Ytbhelobahfgaeaa
