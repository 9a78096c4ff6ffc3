/-
  Plain laws of programs: repetitions, ends, two in a row.
-/
import Derived.Test.YtbhelobahfgaeaaForest
namespace Go.Proofs.Ytbhelobahfgaeaa
open Go Go.RowKit
theorem progGo_flat : ∀ (F : Fo) (l : List Cmd) (d : Int), F.wf → 0 ≤ d → progGo (F.flat ++ l) d = progGo l d
  | .nil, l, d, _, _ => by simp [Fo.flat]
  | .one c r, l, d, hF, hd => by
    have e : dep c d = d := by simp [dep, hF.2.1, hF.2.2.1]
    rw [Fo.flat, List.cons_append, progGo, e, hF.1, decide_eq_false (by omega), progGo_flat r l d hF.2.2.2 hd]
    rfl
  | .rep c e b r, l, d, hF, hd => by
    have e1 : dep c d = d + 1 := by simp [dep, hF.2.2.1]
    have e2 : dep e (d + 1) = d := by
      have : ¬ e.Kind = 5 := by have := hF.2.2.2.1; omega
      rw [dep, if_neg this, if_pos hF.2.2.2.1]; omega
    rw [Fo.flat, List.cons_append, progGo, e1, hF.1, decide_eq_false (by omega), List.append_assoc, progGo_flat b _ _ hF.2.2.2.2.1 (by omega), List.cons_append, progGo, e2, hF.2.1, decide_eq_false (by omega), progGo_flat r l d hF.2.2.2.2.2 hd]
    rfl
def loopC (xs : List Cmd) : List Cmd := [⟨5, 2, 0⟩] ++ xs ++ [⟨6, 0, 0⟩]
theorem cmd52 : cmdB ⟨5, 2, 0⟩ = true := by decide
theorem cmd6 : cmdB ⟨6, 0, 0⟩ = true := by decide
def Fo.app : Fo → Fo → Fo
  | .nil, G => G
  | .one c r, G => .one c (r.app G)
  | .rep c e b r, G => .rep c e b (r.app G)
theorem Fo.app_flat : ∀ F G : Fo, (F.app G).flat = F.flat ++ G.flat
  | .nil, G => rfl
  | .one c r, G => by simp [Fo.app, Fo.flat, Fo.app_flat r G]
  | .rep c e b r, G => by simp [Fo.app, Fo.flat, Fo.app_flat r G]
theorem loop_prog {xs : List Cmd} (h : progB xs = true) : progB (loopC xs) = decide ((loopC xs).length ≤ 30) := by
  obtain ⟨hw, hf⟩ := parseF_ok h
  have e : progGo (loopC xs) 0 = true := by
    have e0 : loopC xs = (Fo.rep ⟨5, 2, 0⟩ ⟨6, 0, 0⟩ (parseF xs) .nil).flat ++ [] := by simp [loopC, Fo.flat, hf]
    rw [e0, progGo_flat (Fo.rep ⟨5, 2, 0⟩ ⟨6, 0, 0⟩ (parseF xs) .nil) [] 0 ⟨cmd52, cmd6, rfl, rfl, hw, trivial⟩ (by omega)]
    rfl
  rw [progB, e, Bool.and_true]
theorem end_prog {xs : List Cmd} (h : progB xs = true) : progB (xs ++ [⟨6, 0, 0⟩]) = false := by
  obtain ⟨hw, hf⟩ := parseF_ok h
  have e : progGo (xs ++ [⟨6, 0, 0⟩]) 0 = false := by
    rw [show xs ++ [⟨6, 0, 0⟩] = (parseF xs).flat ++ [(⟨6, 0, 0⟩ : Cmd)] by rw [hf], progGo_flat _ _ _ hw (by omega)]
    decide
  rw [progB, e, Bool.and_false]
theorem twice_prog {xs : List Cmd} (h : progB xs = true) : progB (xs ++ xs) = decide ((xs ++ xs).length ≤ 30) := by
  obtain ⟨hw, hf⟩ := parseF_ok h
  have e : progGo (xs ++ xs) 0 = true := by
    rw [show xs ++ xs = (parseF xs).flat ++ ((parseF xs).flat ++ []) by rw [hf, List.append_nil], progGo_flat _ _ _ hw (by omega), progGo_flat _ _ _ hw (by omega)]
    rfl
  rw [progB, e, Bool.and_true]
theorem exp_kinds : ∀ F : Fo, F.wf → ∀ c ∈ F.exp, c.Kind ≠ 5 ∧ c.Kind ≠ 6
  | .nil, _, c, hc => by simp [Fo.exp] at hc
  | .one c' r, hF, c, hc => by
    rw [Fo.exp] at hc
    rcases List.mem_cons.1 hc with rfl | hc
    · exact ⟨hF.2.1, hF.2.2.1⟩
    · exact exp_kinds r hF.2.2.2 c hc
  | .rep c' e b r, hF, c, hc => by
    rw [Fo.exp] at hc
    rcases List.mem_append.1 hc with hc | hc
    · obtain ⟨l, hl, hc⟩ := List.mem_flatten.1 hc
      rw [List.mem_replicate] at hl
      rw [hl.2] at hc
      exact exp_kinds b hF.2.2.2.2.1 c hc
    · exact exp_kinds r hF.2.2.2.2.2 c hc
theorem exp_plain : ∀ F : Fo, F.wf → (∀ c ∈ F.flat, c.Kind ≠ 5) → F.exp = F.flat
  | .nil, _, _ => rfl
  | .one c r, hF, h => by
    rw [Fo.exp, Fo.flat, exp_plain r hF.2.2.2 (fun c hc => h c (by simp [Fo.flat, hc]))]
  | .rep c e b r, hF, h => absurd hF.2.2.1 (h c (by simp [Fo.flat]))
theorem expandOk_prog {xs : List Cmd} (h : expandOk xs = true) : progB xs = true ∧ (parseF xs).exp.length ≤ 500 ∧ expandL xs = (parseF xs).exp := by
  have h2 := h
  simp only [expandOk, okL, Bool.and_eq_true, decide_eq_true_eq] at h2
  exact ⟨h2.1, h2.2, by rw [expandL, h, if_pos rfl]⟩
theorem expandL_kinds {xs : List Cmd} (h : expandOk xs = true) : ∀ (k : Nat) (c : Cmd), (expandL xs)[k]? = some c → c.Kind ≠ 5 ∧ c.Kind ≠ 6 := by
  obtain ⟨h1, -, h3⟩ := expandOk_prog h
  intro k c hc
  rw [h3] at hc
  exact exp_kinds _ (parseF_ok h1).1 c (List.mem_of_getElem? hc)
def plainB (xs : List Cmd) : Bool := xs.all (fun c => c.Kind != 5)
theorem plainB_snoc (xs : List Cmd) (k : Nat) (c : Cmd) (h : xs[k]? = some c) : plainB (xs.take (k + 1)) = (plainB (xs.take k) && (c.Kind != 5)) := by
  obtain ⟨hk, rfl⟩ := List.getElem?_eq_some_iff.1 h
  unfold plainB
  rw [List.take_succ_eq_append_getElem hk, List.all_append]
  simp
theorem expandL_plain {xs : List Cmd} (h : expandOk xs = true) (hp : plainB xs = true) : expandL xs = xs := by
  obtain ⟨h1, -, h3⟩ := expandOk_prog h
  obtain ⟨hw, hf⟩ := parseF_ok h1
  rw [h3, exp_plain _ hw, hf]
  rw [hf]
  intro c hc
  have := List.all_eq_true.1 hp c hc
  simpa using this
theorem expand_loop {xs : List Cmd} (h : expandOk xs = true) : expandOk (loopC xs) = (decide ((loopC xs).length ≤ 30) && decide (2 * (expandL xs).length ≤ 500)) ∧ (expandOk (loopC xs) = true → expandL (loopC xs) = expandL xs ++ expandL xs) := by
  obtain ⟨h1, h2, h3⟩ := expandOk_prog h
  obtain ⟨hw, hf⟩ := parseF_ok h1
  have e : parseF (loopC xs) = Fo.rep ⟨5, 2, 0⟩ ⟨6, 0, 0⟩ (parseF xs) .nil := parseF_eq ⟨cmd52, cmd6, rfl, rfl, hw, trivial⟩ (by simp [loopC, Fo.flat, hf])
  have e2 : (parseF (loopC xs)).exp = (parseF xs).exp ++ (parseF xs).exp := by
    rw [e, Fo.exp, Fo.exp, List.append_nil, show (2 : Int).toNat = 2 from rfl]
    simp [List.replicate]
  refine ⟨?_, fun h4 => ?_⟩
  · rw [expandOk, loop_prog h1, e2, h3, okL, List.length_append]
    congr 1
    exact decide_eq_decide.2 (by omega)
  · rw [(expandOk_prog h4).2.2, e2, h3]
end Go.Proofs.Ytbhelobahfgaeaa
