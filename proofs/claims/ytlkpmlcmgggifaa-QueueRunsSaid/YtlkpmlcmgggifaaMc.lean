/- The document's queue, in plain Lean: what its functions answer. -/
import Derived.Test.YtlkpmlcmgggifaaXa
import Derived.Test.YtlkpmlcmgggifaaXb
import Derived.Test.YtlkpmlcmgggifaaMb
set_option linter.unusedVariables false
set_option linter.unusedSimpArgs false
namespace Go.Proofs.Ytlkpmlcmgggifaa
open Go.RowKit Go.Proofs.Ytlkpmlcmgggifaa.PQueueRuns
open Go.Proofs.YtlkpmlcmgggifaaW.PrintWords (Ev rd)
theorem wrap_up {i : Nat} (h : i ≤ 100000) : wrap64 ((i : Int) + 1) = ((i + 1 : Nat) : Int) := by unfold wrap64; omega
theorem wrap_dn {i : Nat} (h : i < 100000) : wrap64 (((i + 1 : Nat) : Int) - 1) = (i : Int) := by unfold wrap64; omega
theorem rd_at (xs : List Int) (i : Nat) (h : i < xs.length) : rd xs (i : Int) = xs[i] := by simp [rd, List.getD, h]
theorem rdT_at (xs : List S36) (i : Nat) (h : i < xs.length) : rd_T36 xs (i : Int) = xs[i] := by simp [rd_T36, List.getD, h]
theorem has_from (xs : List Int) (x : Int) (hn : xs.length ≤ 1000) : ∀ d i, i + d = xs.length → Ev (fun k => tiltyardref13_Has.l0 k xs x (i : Int)) (decide (x ∈ xs.drop i)) := by
  intro d
  induction d with
  | zero =>
    intro i hi
    refine Ev.step (f := fun _ => some _) (fun k => ?_) (Ev.now _)
    simp only [tiltyardref13_Has.l0]
    rw [if_neg (by omega), List.drop_of_length_le (by omega)]
    simp
  | succ d ih =>
    intro i hi
    have hlt : i < xs.length := by omega
    have hd : xs.drop i = xs[i] :: xs.drop (i + 1) := List.drop_eq_getElem_cons hlt
    have hr := rd_at xs i hlt
    by_cases h : xs[i] = x
    · refine Ev.step (f := fun _ => some _) (fun k => ?_) (Ev.now _)
      simp only [tiltyardref13_Has.l0]
      rw [if_pos (by omega), if_pos (by omega), hr, if_pos h, hd]
      simp [h]
    · refine Ev.step (f := fun k => tiltyardref13_Has.l0 k xs x ((i + 1 : Nat) : Int)) (fun k => ?_) ?_
      · simp only [tiltyardref13_Has.l0]
        rw [if_pos (by omega), if_pos (by omega), hr, if_neg h, wrap_up (by omega)]
      · have e : decide (x ∈ xs.drop i) = decide (x ∈ xs.drop (i + 1)) := by
          rw [hd]
          have h' : ¬ x = xs[i] := fun e => h e.symm
          generalize xs.drop (i + 1) = r
          generalize xs[i] = y at h'
          simp [h']
        rw [e]
        exact ih (i + 1) (by omega)
theorem has_ev (xs : List Int) (x : Int) (hn : xs.length ≤ 1000) : Ev (fun k => tiltyardref13_Has.f k xs x) (decide (x ∈ xs)) := by
  have := has_from xs x hn xs.length 0 (by omega)
  show Ev (fun k => tiltyardref13_Has.l0 k xs x 0) _
  simpa using this
/-- Get's answer. -/
def getR (l : List S36) (a : Int) : Int × Int × List Int × Int × Int × Bool :=
  match l.find? (fun t => t.f0 == a) with
  | none => (0, 0, [], 0, 0, false)
  | some t => (t.f0, t.f1, t.f2, t.f3, t.f4, true)
theorem getR_cons (t : S36) (l : List S36) (a : Int) : getR (t :: l) a = if t.f0 = a then (t.f0, t.f1, t.f2, t.f3, t.f4, true) else getR l a := by
  by_cases h : t.f0 = a
  · simp [getR, h]
  · simp [getR, h]
theorem get_from (l : List S36) (a : Int) (hn : l.length ≤ 1000) : ∀ d i, i + d = l.length → Ev (fun k => tiltyardref17_Get.l0 k l a (i : Int)) (getR (l.drop i) a) := by
  intro d
  induction d with
  | zero =>
    intro i hi
    refine Ev.step (f := fun _ => some _) (fun k => ?_) (Ev.now _)
    simp only [tiltyardref17_Get.l0]
    rw [if_neg (by omega), List.drop_of_length_le (by omega)]
    rfl
  | succ d ih =>
    intro i hi
    have hlt : i < l.length := by omega
    have hd : l.drop i = l[i] :: l.drop (i + 1) := List.drop_eq_getElem_cons hlt
    have hr := rdT_at l i hlt
    rw [hd, getR_cons]
    by_cases h : l[i].f0 = a
    · rw [if_pos h]
      refine Ev.step (f := fun _ => some _) (fun k => ?_) (Ev.now _)
      simp only [tiltyardref17_Get.l0]
      rw [if_pos (by omega), if_pos (by omega), hr, if_pos h]
    · rw [if_neg h]
      refine Ev.step (f := fun k => tiltyardref17_Get.l0 k l a ((i + 1 : Nat) : Int)) (fun k => ?_) (ih (i + 1) (by omega))
      simp only [tiltyardref17_Get.l0]
      rw [if_pos (by omega), if_pos (by omega), hr, if_neg h, wrap_up (by omega)]
theorem get_ev (l : List S36) (a : Int) (hn : l.length ≤ 1000) : Ev (fun k => tiltyardref17_Get.f k l a) (getR l a) := by
  have := get_from l a hn l.length 0 (by omega)
  show Ev (fun k => tiltyardref17_Get.l0 k l a 0) _
  simpa using this
/-- Of's answer. -/
def ofR (l : List S36) (p : Int) : Int := ((l.find? (fun t => decide (p ∈ t.f2))).map S36.f0).getD 0
theorem ofR_cons (t : S36) (l : List S36) (p : Int) : ofR (t :: l) p = if p ∈ t.f2 then t.f0 else ofR l p := by
  by_cases h : p ∈ t.f2
  · simp [ofR, h]
  · simp [ofR, h]
theorem of_from (l : List S36) (p : Int) (hn : l.length ≤ 1000) (hp : ∀ t ∈ l, t.f2.length ≤ 1000) : ∀ d i, i + d = l.length → Ev (fun k => tiltyardref17_Of.l0 k l p (i : Int)) (ofR (l.drop i) p) := by
  intro d
  induction d with
  | zero =>
    intro i hi
    refine Ev.step (f := fun _ => some _) (fun k => ?_) (Ev.now _)
    simp only [tiltyardref17_Of.l0]
    rw [if_neg (by omega), List.drop_of_length_le (by omega)]
    rfl
  | succ d ih =>
    intro i hi
    have hlt : i < l.length := by omega
    have hd : l.drop i = l[i] :: l.drop (i + 1) := List.drop_eq_getElem_cons hlt
    have hr := rdT_at l i hlt
    rw [hd, ofR_cons]
    refine Ev.step (f := fun k => (tiltyardref13_Has.f k l[i].f2 p).bind fun t182 => if t182 = true then some l[i].f0 else tiltyardref17_Of.l0 k l p ((i + 1 : Nat) : Int)) (fun k => ?_) ?_
    · simp only [tiltyardref17_Of.l0]
      rw [if_pos (by omega), if_pos (by omega), hr, wrap_up (by omega)]
    · refine Ev.bind (has_ev _ _ (hp _ (List.getElem_mem hlt))) ?_
      by_cases h : p ∈ l[i].f2
      · simp only [h, decide_true, if_true]
        exact Ev.now _
      · simp only [h, decide_false, if_false, Bool.false_eq_true]
        exact ih (i + 1) (by omega)
theorem of_ev (l : List S36) (p : Int) (hn : l.length ≤ 1000) (hp : ∀ t ∈ l, t.f2.length ≤ 1000) : Ev (fun k => tiltyardref17_Of.f k l p) (ofR l p) := by
  have := of_from l p hn hp l.length 0 (by omega)
  show Ev (fun k => tiltyardref17_Of.l0 k l p 0) _
  simpa using this
theorem eta36 (t : S36) : (⟨t.f0, t.f1, t.f2, t.f3, t.f4⟩ : S36) = t := rfl
theorem without_from (l : List S36) (a : Int) (hn : l.length ≤ 1000) : ∀ d i out, i + d = l.length → out.length ≤ i → Ev (fun k => tiltyardref17_Without.l0 k l a out (i : Int)) (out ++ (l.drop i).filter (fun t => t.f0 != a)) := by
  intro d
  induction d with
  | zero =>
    intro i out hi ho
    refine Ev.step (f := fun _ => some _) (fun k => ?_) (Ev.now _)
    simp only [tiltyardref17_Without.l0]
    rw [if_neg (by omega), List.drop_of_length_le (by omega)]
    simp
  | succ d ih =>
    intro i out hi ho
    have hlt : i < l.length := by omega
    have hd : l.drop i = l[i] :: l.drop (i + 1) := List.drop_eq_getElem_cons hlt
    have hr := rdT_at l i hlt
    rw [hd]
    by_cases h : l[i].f0 = a
    · have e : out ++ (l[i] :: l.drop (i + 1)).filter (fun t => t.f0 != a) = out ++ (l.drop (i + 1)).filter (fun t => t.f0 != a) := by
        rw [List.filter_cons_of_neg (by simpa using h)]
      rw [e]
      refine Ev.step (f := fun k => tiltyardref17_Without.l0 k l a out ((i + 1 : Nat) : Int)) (fun k => ?_) (ih (i + 1) out (by omega) (by omega))
      simp only [tiltyardref17_Without.l0]
      rw [if_pos (by omega), if_pos (by omega), hr, if_pos h, wrap_up (by omega)]
    · have e : out ++ (l[i] :: l.drop (i + 1)).filter (fun t => t.f0 != a) = (out ++ [l[i]]) ++ (l.drop (i + 1)).filter (fun t => t.f0 != a) := by
        rw [List.filter_cons_of_pos (by simpa using h), List.append_assoc, List.singleton_append]
      rw [e]
      refine Ev.step (f := fun k => tiltyardref17_Without.l0 k l a (out ++ [l[i]]) ((i + 1 : Nat) : Int)) (fun k => ?_) (ih (i + 1) (out ++ [l[i]]) (by omega) (by simp only [List.length_append, List.length_singleton]; omega))
      simp only [tiltyardref17_Without.l0]
      rw [if_pos (by omega), if_pos (by omega), hr, if_neg h, if_pos (by omega), wrap_up (by omega)]
theorem without_ev (l : List S36) (a : Int) (hn : l.length ≤ 1000) : Ev (fun k => tiltyardref17_Without.f k l a) (l.filter (fun t => t.f0 != a)) := by
  have := without_from l a hn l.length 0 [] (by omega) (by simp)
  show Ev (fun k => tiltyardref17_Without.l0 k l a [] 0) _
  simpa using this
theorem same7_from (l : List Int) (hn : l.length ≤ 1000) : ∀ d i, i + d = l.length → Ev (fun k => tiltyardref07_Same.l0 k l l (i : Int)) true := by
  intro d
  induction d with
  | zero =>
    intro i hi
    refine Ev.step (f := fun _ => some true) (fun k => ?_) (Ev.now _)
    simp only [tiltyardref07_Same.l0]
    rw [if_neg (by omega)]
  | succ d ih =>
    intro i hi
    refine Ev.step (f := fun k => tiltyardref07_Same.l0 k l l ((i + 1 : Nat) : Int)) (fun k => ?_) (ih (i + 1) (by omega))
    simp only [tiltyardref07_Same.l0]
    rw [if_pos (by omega), if_pos (by omega), if_pos (by omega), if_pos trivial, wrap_up (by omega)]
theorem same_ev (a b : Int) (l : List Int) (c d : Int) (hn : l.length ≤ 1000) : Ev (fun k => tiltyardlaw17_same.f k a b l c d a b l c d) true := by
  unfold tiltyardlaw17_same.f tiltyardref17_Same.f tiltyardref07_Same.f
  simp only [if_true]
  refine Ev.bind (a := true) ?_ (Ev.now _)
  refine Ev.bind (a := true) ?_ (Ev.now _)
  exact same7_from l hn l.length 0 (by omega)
theorem config_from (l : List S123) (hn : l.length ≤ 1000) : ∀ d i out, i + d = l.length → out.length ≤ i → Ev (fun k => tiltyardlaw17_config.l0 k l (i : Int) ⟨#[]⟩ 0 0 0 0 0 0 0 0 0 0 0 0 out) (⟨#[]⟩, 0, 0, 0, 0, 0, 0, 0, 0, 0, 0, 0, 0, out ++ (l.drop i).map (fun t => (⟨t.f0, t.f1, t.f2, t.f3, t.f4⟩ : S32))) := by
  intro d
  induction d with
  | zero =>
    intro i out hi ho
    refine Ev.step (f := fun _ => some _) (fun k => ?_) (Ev.now _)
    simp only [tiltyardlaw17_config.l0]
    rw [if_neg (by omega), List.drop_of_length_le (by omega)]
    simp
  | succ d ih =>
    intro i out hi ho
    have hlt : i < l.length := by omega
    have hd : l.drop i = l[i] :: l.drop (i + 1) := List.drop_eq_getElem_cons hlt
    have hr : rd_T123 l (i : Int) = l[i] := by simp [rd_T123, List.getD, hlt]
    have e : out ++ (l.drop i).map (fun t => (⟨t.f0, t.f1, t.f2, t.f3, t.f4⟩ : S32)) = (out ++ [⟨l[i].f0, l[i].f1, l[i].f2, l[i].f3, l[i].f4⟩]) ++ (l.drop (i + 1)).map (fun t => (⟨t.f0, t.f1, t.f2, t.f3, t.f4⟩ : S32)) := by rw [hd, List.map_cons, List.append_assoc, List.singleton_append]
    rw [e]
    refine Ev.step (f := fun k => tiltyardlaw17_config.l0 k l ((i + 1 : Nat) : Int) ⟨#[]⟩ 0 0 0 0 0 0 0 0 0 0 0 0 (out ++ [⟨l[i].f0, l[i].f1, l[i].f2, l[i].f3, l[i].f4⟩])) (fun k => ?_) (ih (i + 1) (out ++ [⟨l[i].f0, l[i].f1, l[i].f2, l[i].f3, l[i].f4⟩]) (by omega) (by simp only [List.length_append, List.length_singleton]; omega))
    simp only [tiltyardlaw17_config.l0]
    rw [if_pos (by omega), if_pos (by omega), hr, if_pos (by omega), wrap_up (by omega)]
theorem config_ev (l : List S123) (hn : l.length ≤ 1000) : Ev (fun k => tiltyardlaw17_config.f k l) (⟨#[]⟩, 0, 0, 0, 0, 0, 0, 0, 0, 0, 0, 0, 0, l.map (fun t => (⟨t.f0, t.f1, t.f2, t.f3, t.f4⟩ : S32))) := by
  have := config_from l hn l.length 0 [] (by omega) (by simp)
  show Ev (fun k => tiltyardlaw17_config.l0 k l 0 ⟨#[]⟩ 0 0 0 0 0 0 0 0 0 0 0 0 []) _
  simpa using this
/-! Mode -/
def aheadB (a b : S36) : Bool := decide (a.f4 < b.f4 ∨ a.f4 = b.f4 ∧ a.f0 < b.f0)
theorem ahead_is (a b : S36) : tiltyardref17_ahead.f a.f0 a.f1 a.f2 a.f3 a.f4 b.f0 b.f1 b.f2 b.f3 b.f4 = some (aheadB a b) := by
  unfold tiltyardref17_ahead.f aheadB
  by_cases h : a.f4 < b.f4
  · simp [h]
  · by_cases h2 : a.f4 = b.f4
    · simp [h2]
    · simp [h, h2]
/-- where x goes, from j down -/
def posR (x : S36) (out : List S36) : Nat → Nat
  | 0 => 0
  | j + 1 => if aheadB x (out.getD j z36) = true then posR x out j else j + 1
def insR (x : S36) (out : List S36) : List S36 := out.take (posR x out out.length) ++ x :: out.drop (posR x out out.length)
def modeFrom (m : Int) : List S36 → List S36 → List S36
  | [], out => out
  | x :: r, out => if x.f1 = m then modeFrom m r (insR x out) else modeFrom m r out
theorem posR_le (x : S36) (out : List S36) : ∀ j, posR x out j ≤ j
  | 0 => Nat.le_refl _
  | j + 1 => by
    simp only [posR]
    split
    · have := posR_le x out j; omega
    · exact Nat.le_refl _
theorem insR_perm (x : S36) (out : List S36) : (insR x out).Perm (x :: out) := by
  unfold insR
  exact List.perm_middle.trans (by rw [List.take_append_drop])
theorem insR_len (x : S36) (out : List S36) : (insR x out).length = out.length + 1 := by simpa using (insR_perm x out).length_eq
theorem mode_in (l : List S36) (m : Int) (out : List S36) (i : Nat) (hlt : i < l.length) (hn : l.length ≤ 1000) (ho : out.length ≤ 1000) (R : List S36) :
    ∀ j, j ≤ out.length → Ev (fun k => tiltyardref17_Mode.l0 k l m (out.take (posR l[i] out j) ++ l[i] :: out.drop (posR l[i] out j)) ((i + 1 : Nat) : Int)) R → Ev (fun k => tiltyardref17_Mode.l1 k l m out (i : Int) (j : Int)) R := by
  have hr := rdT_at l i hlt
  intro j
  induction j with
  | zero =>
    intro hj hE
    refine Ev.step (fun k => ?_) hE
    simp only [tiltyardref17_Mode.l1, posR]
    rw [if_neg (by omega), if_pos (by omega), if_pos (by omega), hr]
    simp only [Option.bind_some, eta36]
    rw [if_pos (by omega), if_pos (by omega), if_pos (by simp <;> omega), if_pos (by simp <;> omega), if_pos (by simp <;> omega), wrap_up (by omega)]
    simp
  | succ j ih =>
    intro hj hE
    have hro : rd_T36 out (j : Int) = out.getD j z36 := rfl
    by_cases h : aheadB l[i] (out.getD j z36) = true
    · refine Ev.step (f := fun k => tiltyardref17_Mode.l1 k l m out (i : Int) (j : Int)) (fun k => ?_) (ih (by omega) (by simpa only [posR, if_pos h] using hE))
      simp only [tiltyardref17_Mode.l1]
      rw [if_pos (by omega), if_pos (by omega), if_pos (by omega), wrap_dn (by omega), if_pos (by omega), if_pos (by omega), hr, hro, ahead_is, h]
      rfl
    · simp only [posR, if_neg h] at hE
      refine Ev.step (fun k => ?_) hE
      simp only [tiltyardref17_Mode.l1]
      rw [if_pos (by omega), if_pos (by omega), if_pos (by omega), wrap_dn (by omega), if_pos (by omega), if_pos (by omega), hr, hro, ahead_is]
      simp only [Option.bind_some, eta36]
      rw [if_neg h, if_pos (by omega), if_pos (by omega), if_pos (by simp <;> omega), if_pos (by simp <;> omega), if_pos (by simp <;> omega), wrap_up (by omega)]
      simp
theorem mode_from (l : List S36) (m : Int) (hn : l.length ≤ 400) : ∀ d i out, i + d = l.length → out.length ≤ i → Ev (fun k => tiltyardref17_Mode.l0 k l m out (i : Int)) (modeFrom m (l.drop i) out) := by
  intro d
  induction d with
  | zero =>
    intro i out hi ho
    refine Ev.step (f := fun _ => some _) (fun k => ?_) (Ev.now _)
    simp only [tiltyardref17_Mode.l0]
    rw [if_neg (by omega), List.drop_of_length_le (by omega)]
    rfl
  | succ d ih =>
    intro i out hi ho
    have hlt : i < l.length := by omega
    have hd : l.drop i = l[i] :: l.drop (i + 1) := List.drop_eq_getElem_cons hlt
    have hr := rdT_at l i hlt
    rw [hd]
    simp only [modeFrom]
    by_cases h : l[i].f1 = m
    · rw [if_pos h]
      refine Ev.step (f := fun k => tiltyardref17_Mode.l1 k l m out (i : Int) (out.length : Int)) (fun k => ?_) (mode_in l m out i hlt (by omega) (by omega) _ out.length (Nat.le_refl _) (ih (i + 1) _ (by omega) (by have := insR_len l[i] out; unfold insR at this; omega)))
      simp only [tiltyardref17_Mode.l0]
      rw [if_pos (by omega), if_pos (by omega), hr, if_pos h]
    · rw [if_neg h]
      refine Ev.step (f := fun k => tiltyardref17_Mode.l0 k l m out ((i + 1 : Nat) : Int)) (fun k => ?_) (ih (i + 1) out (by omega) (by omega))
      simp only [tiltyardref17_Mode.l0]
      rw [if_pos (by omega), if_pos (by omega), hr, if_neg h, wrap_up (by omega)]
def modeR (l : List S36) (m : Int) : List S36 := modeFrom m l []
theorem mode_ev (l : List S36) (m : Int) (hn : l.length ≤ 400) : Ev (fun k => tiltyardref17_Mode.f k l m) (modeR l m) := by
  have := mode_from l m hn l.length 0 [] (by omega) (by simp)
  show Ev (fun k => tiltyardref17_Mode.l0 k l m [] 0) _
  simpa [modeR] using this
theorem modeFrom_perm (m : Int) : ∀ l out, (modeFrom m l out).Perm (out ++ l.filter (fun t => t.f1 == m))
  | [], out => by simp [modeFrom]
  | x :: r, out => by
    simp only [modeFrom]
    by_cases h : x.f1 = m
    · rw [if_pos h, List.filter_cons_of_pos (by simpa using h)]
      exact (modeFrom_perm m r _).trans (((insR_perm x out).append_right _).trans List.perm_middle.symm)
    · rw [if_neg h, List.filter_cons_of_neg (by simpa using h)]
      exact modeFrom_perm m r _
theorem posR_tells (x : S36) (out : List S36) : ∀ j, (∀ i, posR x out j ≤ i → i < j → aheadB x (out.getD i z36) = true) ∧ (∀ i, i + 1 = posR x out j → aheadB x (out.getD i z36) = false)
  | 0 => ⟨fun i h1 h2 => absurd h2 (by omega), fun i h => by simp [posR] at h⟩
  | j + 1 => by
    simp only [posR]
    by_cases h : aheadB x (out.getD j z36) = true
    · rw [if_pos h]
      obtain ⟨h1, h2⟩ := posR_tells x out j
      refine ⟨fun i hi hj => ?_, h2⟩
      by_cases e : i = j
      · subst e; exact h
      · exact h1 i hi (by omega)
    · rw [if_neg h]
      exact ⟨fun i h1 h2 => absurd h2 (by omega), fun i hi => by
        obtain rfl : i = j := by omega
        simpa using h⟩
theorem ahead_trans {a b c : S36} (h1 : aheadB a b = true) (h2 : aheadB b c = true) : aheadB a c = true := by
  simp only [aheadB, decide_eq_true_eq] at *
  omega
theorem ahead_total {a b : S36} (h : aheadB a b = false) (hne : a.f0 ≠ b.f0) : aheadB b a = true := by
  simp only [aheadB, decide_eq_true_eq, decide_eq_false_iff_not] at *
  omega
theorem insR_sorted (x : S36) (out : List S36) (hs : out.Pairwise (fun a b => aheadB a b = true)) (hne : ∀ y ∈ out, y.f0 ≠ x.f0) : (insR x out).Pairwise (fun a b => aheadB a b = true) := by
  unfold insR
  obtain ⟨h1, h2⟩ := posR_tells x out out.length
  have hle := posR_le x out out.length
  generalize posR x out out.length = p at h1 h2 hle
  have hs' := hs
  rw [← List.take_append_drop p out] at hs'
  obtain ⟨s1, s2, s3⟩ := List.pairwise_append.1 hs'
  have hb : ∀ y ∈ out.take p, aheadB y x = true := by
    intro y hy
    cases p with
    | zero => simp at hy
    | succ p =>
      have hp : p < out.length := by omega
      have hg : out.getD p z36 = out[p] := by simp [List.getD, hp]
      have hl := h2 p rfl
      rw [hg] at hl
      have hpx : aheadB out[p] x = true := ahead_total hl (fun e => hne _ (List.getElem_mem hp) e.symm)
      rw [List.take_succ_eq_append_getElem hp] at hy s1
      rcases List.mem_append.1 hy with hy | hy
      · exact ahead_trans ((List.pairwise_append.1 s1).2.2 y hy _ (by simp)) hpx
      · rw [List.mem_singleton.1 hy]; exact hpx
  have ha : ∀ y ∈ out.drop p, aheadB x y = true := by
    intro y hy
    obtain ⟨i, hi, rfl⟩ := List.getElem_of_mem hy
    have hi' : p + i < out.length := by simpa [Nat.add_comm, Nat.lt_sub_iff_add_lt] using hi
    have := h1 (p + i) (by omega) hi'
    rw [List.getElem_drop]
    simpa [List.getD, hi'] using this
  refine List.pairwise_append.2 ⟨s1, List.pairwise_cons.2 ⟨ha, s2⟩, fun y hy z hz => ?_⟩
  rcases List.mem_cons.1 hz with rfl | hz
  · exact hb y hy
  · exact s3 y hy z hz
theorem modeFrom_sorted (m : Int) : ∀ l out, out.Pairwise (fun a b => aheadB a b = true) → (out ++ l).Pairwise (fun a b => a.f0 ≠ b.f0) → (modeFrom m l out).Pairwise (fun a b => aheadB a b = true)
  | [], out, hs, _ => hs
  | x :: r, out, hs, hd => by
    have hp : (out ++ x :: r).Perm (x :: (out ++ r)) := List.perm_middle
    have hd2 := (hp.pairwise_iff (fun {a b} h e => h e.symm)).1 hd
    obtain ⟨h1, h2⟩ := List.pairwise_cons.1 hd2
    simp only [modeFrom]
    split
    · refine modeFrom_sorted m r _ (insR_sorted x out hs (fun y hy e => h1 y (by simp [hy]) e.symm)) ?_
      have hq : (insR x out ++ r).Perm (x :: (out ++ r)) := (insR_perm x out).append_right r
      exact (hq.pairwise_iff (fun {a b} h e => h e.symm)).2 hd2
    · exact modeFrom_sorted m r out hs h2
end Go.Proofs.Ytlkpmlcmgggifaa
namespace Go.Proofs.Ytlkpmlcmgggifaa
open Go.RowKit Go.Proofs.Ytlkpmlcmgggifaa.PQueueRuns
open Go.Proofs.YtlkpmlcmgggifaaW.PrintWords (Ev rd)
def skey (t : S36) : Int × Int × List Int × Int × Int := (t.f0, t.f1, t.f2, t.f3, t.f4)
/-- The document's tickets are the program's. -/
def Rel (us : List S36) (ts : List Tk) : Prop := (us.map skey).Perm (ts.map Tk.key)
theorem Rel.len {us : List S36} {ts : List Tk} (h : Rel us ts) : us.length = ts.length := by simpa using h.length_eq
theorem Rel.to {us : List S36} {ts : List Tk} (h : Rel us ts) {u : S36} (hu : u ∈ us) : ∃ t ∈ ts, t.key = skey u := by
  have := h.mem_iff.1 (List.mem_map_of_mem hu)
  obtain ⟨t, ht, e⟩ := List.mem_map.1 this
  exact ⟨t, ht, e⟩
theorem Rel.of {us : List S36} {ts : List Tk} (h : Rel us ts) {t : Tk} (ht : t ∈ ts) : ∃ u ∈ us, skey u = t.key := by
  have := h.mem_iff.2 (List.mem_map_of_mem ht)
  obtain ⟨u, hu, e⟩ := List.mem_map.1 this
  exact ⟨u, hu, e⟩
theorem key_open {t : Tk} {u : S36} (h : t.key = skey u) : t.id = u.f0 ∧ t.mode = u.f1 ∧ t.pl = u.f2 ∧ t.rating = u.f3 ∧ t.since = u.f4 := by
  simpa [Tk.key, skey] using h
theorem id_inj {ts : List Tk} (h : ts.Pairwise (fun a b => a.id ≠ b.id)) {x y : Tk} (hx : x ∈ ts) (hy : y ∈ ts) (e : x.id = y.id) : x = y := by
  induction ts with
  | nil => simp at hx
  | cons t r ih =>
    obtain ⟨h1, h2⟩ := List.pairwise_cons.1 h
    rcases List.mem_cons.1 hx with rfl | hx2
    · rcases List.mem_cons.1 hy with rfl | hy
      · rfl
      · exact absurd e (h1 y hy)
    · rcases List.mem_cons.1 hy with rfl | hy
      · exact absurd e.symm (h1 x hx2)
      · exact ih h2 hx2 hy
theorem pl_inj {ts : List Tk} (h : ts.Pairwise (fun a b => ∀ x ∈ a.pl, x ∉ b.pl)) {x y : Tk} (hx : x ∈ ts) (hy : y ∈ ts) {p : Int} (h1 : p ∈ x.pl) (h2 : p ∈ y.pl) : x = y := by
  induction ts with
  | nil => simp at hx
  | cons t r ih =>
    obtain ⟨a1, a2⟩ := List.pairwise_cons.1 h
    rcases List.mem_cons.1 hx with rfl | hx2
    · rcases List.mem_cons.1 hy with rfl | hy
      · rfl
      · exact absurd h2 (a1 y hy p h1)
    · rcases List.mem_cons.1 hy with rfl | hy
      · exact absurd h1 (a1 x hx2 p h2)
      · exact ih a2 hx2 hy
theorem rel_get {us : List S36} {ts : List Tk} {sizes : List Int} (h : Rel us ts) (hI : Inv ts sizes) (a : Int) :
    getR us a = match ts.find? (fun t => t.id == a) with | none => (0, 0, [], 0, 0, false) | some t => (t.id, t.mode, t.pl, t.rating, t.since, true) := by
  cases hf : ts.find? (fun t => t.id == a) with
  | none =>
    have : us.find? (fun t => t.f0 == a) = none := by
      rw [List.find?_eq_none] at hf ⊢
      intro u hu
      obtain ⟨t, ht, e⟩ := h.to hu
      have := hf t ht
      rw [(key_open e).1] at this
      exact this
    simp [getR, this]
  | some t =>
    have htm := List.mem_of_find?_eq_some hf
    have hta : t.id = a := by simpa using List.find?_some hf
    obtain ⟨u, hu, e⟩ := h.of htm
    cases hg : us.find? (fun t => t.f0 == a) with
    | none =>
      rw [List.find?_eq_none] at hg
      have := hg u hu
      rw [← (key_open e.symm).1, hta] at this
      simp at this
    | some u' =>
      have hum := List.mem_of_find?_eq_some hg
      have hua : u'.f0 = a := by simpa using List.find?_some hg
      obtain ⟨t', ht', e'⟩ := h.to hum
      have hid : t' = t := id_inj hI.ids ht' htm (by rw [(key_open e').1, hua, hta])
      subst hid
      obtain ⟨k0, k1, k2, k3, k4⟩ := key_open e'
      simp [getR, hg, k0, k1, k2, k3, k4]
theorem rel_of {us : List S36} {ts : List Tk} {sizes : List Int} (h : Rel us ts) (hI : Inv ts sizes) (p : Int) : ofR us p = idOf (ts.find? (fun t => decide (p ∈ t.pl))) := by
  cases hf : ts.find? (fun t => decide (p ∈ t.pl)) with
  | none =>
    have : us.find? (fun t => decide (p ∈ t.f2)) = none := by
      rw [List.find?_eq_none] at hf ⊢
      intro u hu
      obtain ⟨t, ht, e⟩ := h.to hu
      have := hf t ht
      rw [(key_open e).2.2.1] at this
      exact this
    simp [ofR, this, idOf]
  | some t =>
    have htm := List.mem_of_find?_eq_some hf
    have hta : p ∈ t.pl := by simpa using List.find?_some hf
    obtain ⟨u, hu, e⟩ := h.of htm
    cases hg : us.find? (fun t => decide (p ∈ t.f2)) with
    | none =>
      rw [List.find?_eq_none] at hg
      have := hg u hu
      rw [← (key_open e.symm).2.2.1] at this
      simp [hta] at this
    | some u' =>
      have hum := List.mem_of_find?_eq_some hg
      have hua : p ∈ u'.f2 := by simpa using List.find?_some hg
      obtain ⟨t', ht', e'⟩ := h.to hum
      have hid : t' = t := pl_inj hI.apart ht' htm (p := p) (by rw [(key_open e').2.2.1]; exact hua) hta
      subst hid
      simp [ofR, hg, idOf, (key_open e').1]
def klt (a b : Int × Int × List Int × Int × Int) : Prop := a.2.2.2.2 < b.2.2.2.2 ∨ a.2.2.2.2 = b.2.2.2.2 ∧ a.1 < b.1
theorem rel_ids {us : List S36} {ts : List Tk} {sizes : List Int} (h : Rel us ts) (hI : Inv ts sizes) : us.Pairwise (fun a b => a.f0 ≠ b.f0) := by
  have h1 : (ts.map Tk.key).Pairwise (fun a b => a.1 ≠ b.1) := List.pairwise_map.2 (hI.ids.imp (fun h => h))
  have h2 := (h.pairwise_iff (fun {a b} h e => h e.symm)).2 h1
  exact (List.pairwise_map.1 h2).imp (fun h => h)
theorem rel_mode {us : List S36} {ts : List Tk} {sizes : List Int} (h : Rel us ts) (hI : Inv ts sizes) (m : Int) : (modeR us m).map skey = (ts.filter (fun t => t.mode == m)).map Tk.key := by
  have hp : ((modeR us m).map skey).Perm ((ts.filter (fun t => t.mode == m)).map Tk.key) := by
    refine ((modeFrom_perm m us []).map skey).trans ?_
    rw [List.nil_append]
    have := h.filter (fun k => k.2.1 == m)
    rw [List.filter_map, List.filter_map] at this
    exact this
  have s1 : ((modeR us m).map skey).Pairwise klt := by
    refine List.pairwise_map.2 ?_
    have := modeFrom_sorted m us [] List.Pairwise.nil (by simpa using rel_ids h hI)
    exact this.imp (fun h => by simpa [aheadB, klt, skey] using h)
  have s2 : ((ts.filter (fun t => t.mode == m)).map Tk.key).Pairwise klt := by
    refine List.pairwise_map.2 ?_
    have : (ts.filter (fun t => t.mode == m)).Pairwise (fun a b => ordT a b < 0) := hI.sorted.sublist List.filter_sublist
    exact this.imp (fun h => by rw [ordT_neg] at h; simpa [klt, Tk.key] using h)
  refine hp.eq_of_pairwise (le := klt) ?_ s1 s2
  intro a b _ _ h1 h2
  simp only [klt] at h1 h2
  omega
theorem rel_put {us : List S36} {ts : List Tk} {t' : Tk} {u : S36} (h : Rel us ts) (hk : t'.key = skey u) : Rel (us ++ [u]) (insT t' ts) := by
  unfold Rel
  rw [List.map_append, List.map_singleton]
  refine (List.perm_append_comm).trans ?_
  rw [List.singleton_append, ← hk]
  exact (h.cons t'.key).trans (((insT_perm t' ts).map Tk.key).symm)
theorem filter_erase {ts : List Tk} (h : ts.Pairwise (fun a b => a.id ≠ b.id)) {k : Nat} (hk : k < ts.length) {t : Tk} (ht : t = ts.getD k Tk.zero) : ts.filter (fun y => y.id != t.id) = ts.eraseIdx k := by
  obtain ⟨e1, e2⟩ := split_at hk
  rw [← ht] at e1
  rw [e2]
  rw [e1] at h
  obtain ⟨i1, i2, i3⟩ := List.pairwise_append.1 h
  obtain ⟨i4, i5⟩ := List.pairwise_cons.1 i2
  conv => lhs; rw [e1]
  rw [List.filter_append, List.filter_cons_of_neg (by simp)]
  rw [List.filter_eq_self.2 (fun y hy => by simpa using i3 y hy t (by simp)), List.filter_eq_self.2 (fun y hy => by simpa using fun e => i4 y hy e.symm)]
theorem rel_drop {us : List S36} {ts : List Tk} {sizes : List Int} (h : Rel us ts) (hI : Inv ts sizes) {k : Nat} (hk : k < ts.length) {t : Tk} (ht : t = ts.getD k Tk.zero) : Rel (us.filter (fun y => y.f0 != t.id)) (ts.eraseIdx k) := by
  rw [← filter_erase hI.ids hk ht]
  have := h.filter (fun k => k.1 != t.id)
  rw [List.filter_map, List.filter_map] at this
  exact this
theorem rel_drop_none {us : List S36} {ts : List Tk} (h : Rel us ts) {a : Int} (hf : ts.find? (fun t => t.id == a) = none) : us.filter (fun y => y.f0 != a) = us := by
  rw [List.filter_eq_self]
  intro u hu
  obtain ⟨t, ht, e⟩ := h.to hu
  rw [List.find?_eq_none] at hf
  have := hf t ht
  rw [(key_open e).1] at this
  simpa using this
/-! Put -/
def dblR (us : List S36) (pl : List Int) : Bool := (List.range pl.length).any (fun k => ofR us (pl.getD k 0) != 0 || decide (pl.getD k 0 ∈ pl.drop (k + 1)))
def codeR (us : List S36) (sizes : List Int) (t : S36) : Int :=
  if !rightB t.f0 || t.f2.any (fun x => !rightB x) then 14
  else if t.f1 < 0 ∨ t.f1 ≥ sizes.length then 20
  else if t.f2.length = 0 ∨ (t.f2.length : Int) > sizes.getD t.f1.toNat 0 then 21
  else if t.f3 < 0 ∨ t.f3 > 10000 then 2
  else if (getR us t.f0).2.2.2.2.2 || dblR us t.f2 then 11
  else if (modeR us t.f1).length ≥ 16 then 10
  else 0
theorem dbl_back {ts : List Tk} {pl : List Int} : doubledB ts pl = (List.range pl.length).any (fun k => decide (pl.getD k 0 ∈ pl.take k) || ofI ts (pl.getD k 0) != 0) := rfl
theorem nodup_take (pl : List Int) : (∀ k, k < pl.length → pl.getD k 0 ∉ pl.take k) ↔ pl.Nodup := by
  rw [List.nodup_iff_pairwise_ne, List.pairwise_iff_getElem]
  constructor
  · intro h i j hi hj hij e
    refine h j hj ?_
    rw [List.mem_take_iff_getElem]
    exact ⟨i, by omega, by simp [List.getD, hj, e]⟩
  · intro h k hk hm
    obtain ⟨i, hi, e⟩ := List.mem_take_iff_getElem.1 hm
    have := h i k (by omega) hk (by omega)
    simp [List.getD, hk] at e
    exact this e
theorem nodup_drop (pl : List Int) : (∀ k, k < pl.length → pl.getD k 0 ∉ pl.drop (k + 1)) ↔ pl.Nodup := by
  rw [List.nodup_iff_pairwise_ne, List.pairwise_iff_getElem]
  constructor
  · intro h i j hi hj hij e
    refine h i hi ?_
    rw [List.mem_drop_iff_getElem]
    refine ⟨j - (i + 1), by omega, ?_⟩
    simp only [List.getD, List.getElem?_eq_getElem hi, Option.getD_some]
    rw [e]
    congr 1 <;> omega
  · intro h k hk hm
    obtain ⟨i, hi, e⟩ := List.mem_drop_iff_getElem.1 hm
    have := h k (k + 1 + i) hk (by omega) (by omega)
    simp [List.getD, hk] at e
    exact this (by rw [← e])
theorem rel_dbl {us : List S36} {ts : List Tk} {sizes : List Int} (h : Rel us ts) (hI : Inv ts sizes) (pl : List Int) : dblR us pl = doubledB ts pl := by
  have e : ∀ p, ofR us p = ofI ts p := fun p => rel_of h hI p
  have key : dblR us pl = false ↔ doubledB ts pl = false := by
    rw [dbl_back]
    unfold dblR
    simp only [List.any_eq_false, List.mem_range, Bool.not_eq_true, Bool.or_eq_false_iff, decide_eq_false_iff_not, e]
    constructor
    · intro h1 k hk
      have hn := (nodup_drop pl).1 (fun k hk => (h1 k hk).2)
      exact ⟨(nodup_take pl).2 hn k hk, (h1 k hk).1⟩
    · intro h1 k hk
      have hn := (nodup_take pl).1 (fun k hk => (h1 k hk).1)
      exact ⟨(h1 k hk).2, (nodup_drop pl).2 hn k hk⟩
  cases h1 : dblR us pl <;> cases h2 : doubledB ts pl <;> simp_all
theorem rel_code {us : List S36} {ts : List Tk} {sizes : List Int} (h : Rel us ts) (hI : Inv ts sizes) (u : S36) (t : Tk) (hk : t.key = skey u) : codeR us sizes u = putCode ts sizes t := by
  obtain ⟨k0, k1, k2, k3, k4⟩ := key_open hk
  unfold codeR putCode
  rw [rel_dbl h hI, k0, k1, k2, k3]
  have e1 : (getR us u.f0).2.2.2.2.2 = (ts.find? (fun y => y.id == u.f0)).isSome := by
    rw [rel_get h hI]
    cases ts.find? (fun y => y.id == u.f0) <;> rfl
  have e2 : (modeR us u.f1).length = (ts.filter (fun y => y.mode == u.f1)).length := by
    simpa using congrArg List.length (rel_mode h hI u.f1)
  rw [e1, e2]
end Go.Proofs.Ytlkpmlcmgggifaa
namespace Go.Proofs.Ytlkpmlcmgggifaa
open Go.RowKit Go.Proofs.Ytlkpmlcmgggifaa.PQueueRuns
open Go.Proofs.YtlkpmlcmgggifaaW.PrintWords (Ev rd)
theorem right_is {a : Int} (h : 0 ≤ a) : tiltyardref07_Right.f a = some (rightB a) := by
  unfold tiltyardref07_Right.f rightB
  by_cases h0 : a = 0
  · subst h0; rfl
  · rw [if_neg h0]
    congr 1
    exact decide_eq_decide.2 (by omega)
/-- Put's last part. -/
def tailR (l : List S36) (t : S36) (there : Bool) : List S36 × Int := if there = true then (l, 11) else if (modeR l t.f1).length ≥ 16 then (l, 10) else (l ++ [t], 0)
def hitR (l : List S36) (pl : List Int) (k : Nat) : Bool := ofR l (pl.getD k 0) != 0 || decide (pl.getD k 0 ∈ pl.drop (k + 1))
theorem put_l1 (l : List S36) (t : S36) (hn : l.length ≤ 300) (hp : ∀ t ∈ l, t.f2.length ≤ 1000) (hl : t.f2.length ≤ 1000) :
    ∀ d i b, i + d = t.f2.length → Ev (fun k => tiltyardref17_Put.l1 k l b (i : Int) t.f0 t.f1 t.f2 t.f3 t.f4) (tailR l t (b || (List.range' i d).any (hitR l t.f2))) := by
  intro d
  induction d with
  | zero =>
    intro i b hi
    simp only [List.range'_zero, List.any_nil, Bool.or_false]
    by_cases hb : b = true
    · subst hb
      refine Ev.step (f := fun _ => some _) (fun k => ?_) (Ev.now _)
      simp only [tiltyardref17_Put.l1]
      rw [if_neg (by omega), if_pos trivial]
      rfl
    · refine Ev.step (f := fun k => (tiltyardref17_Mode.f k l t.f1).bind fun r => if r.length ≥ 16 then some (l, (10 : Int)) else some (l ++ [t], 0)) (fun k => ?_) ?_
      · simp only [tiltyardref17_Put.l1]
        rw [if_neg (by omega), if_neg hb]
        congr 1
        funext r
        by_cases h : r.length ≥ 16
        · rw [if_pos (by omega), if_pos h]
        · rw [if_neg (by omega), if_neg h]
          simp only [Option.bind_some, List.nil_append, List.length_nil, Nat.zero_add, eta36]
          rw [if_pos (by omega)]
          rw [if_pos (by simp; omega)]
      · refine Ev.bind (mode_ev l t.f1 (by omega)) ?_
        unfold tailR
        rw [if_neg hb]
        by_cases h : (modeR l t.f1).length ≥ 16
        · simp only [if_pos h]; exact Ev.now _
        · simp only [if_neg h]; exact Ev.now _
  | succ d ih =>
    intro i b hi
    have hlt : i < t.f2.length := by omega
    have hr := rd_at t.f2 i hlt
    have hg : t.f2.getD i 0 = t.f2[i] := by simp [List.getD, hlt]
    rw [List.range'_succ, List.any_cons]
    by_cases hb : b = true
    · subst hb
      rw [Bool.true_or]
      have := ih (i + 1) true (by omega)
      rw [Bool.true_or] at this
      refine Ev.step (f := fun k => tiltyardref17_Put.l1 k l true ((i + 1 : Nat) : Int) t.f0 t.f1 t.f2 t.f3 t.f4) (fun k => ?_) this
      simp only [tiltyardref17_Put.l1]
      rw [if_pos (by omega), if_pos trivial, wrap_up (by omega)]
    · have hb' : b = false := by simpa using hb
      subst hb'
      rw [Bool.false_or]
      refine Ev.step (f := fun k => (tiltyardref17_Of.f k l t.f2[i]).bind fun o => if o = 0 then (tiltyardref13_Has.f k (t.f2.drop (i + 1)) t.f2[i]).bind fun h => tiltyardref17_Put.l1 k l h ((i + 1 : Nat) : Int) t.f0 t.f1 t.f2 t.f3 t.f4 else tiltyardref17_Put.l1 k l true ((i + 1 : Nat) : Int) t.f0 t.f1 t.f2 t.f3 t.f4) (fun k => ?_) ?_
      · simp only [tiltyardref17_Put.l1]
        rw [if_pos (by omega), if_neg (by decide), if_pos (by omega), hr, wrap_up (by omega)]
        congr 1
        funext o
        by_cases ho : o = 0
        · rw [if_pos ho, if_pos ho, if_pos (by omega), if_pos (by omega)]
          rfl
        · rw [if_neg ho, if_neg ho]
      · refine Ev.bind (of_ev l _ (by omega) hp) ?_
        by_cases ho : ofR l t.f2[i] = 0
        · simp only [if_pos ho]
          refine Ev.bind (has_ev _ _ (by rw [List.length_drop]; omega)) ?_
          have := ih (i + 1) (decide (t.f2[i] ∈ t.f2.drop (i + 1))) (by omega)
          have e : hitR l t.f2 i = decide (t.f2[i] ∈ t.f2.drop (i + 1)) := by unfold hitR; rw [hg, ho]; simp
          rw [e]
          exact this
        · simp only [if_neg ho]
          have := ih (i + 1) true (by omega)
          have e : hitR l t.f2 i = true := by unfold hitR; rw [hg]; simp [ho]
          rw [e]
          exact this
/-- Put's answer. -/
def putR (l : List S36) (sizes : List Int) (t : S36) : List S36 × Int := (if codeR l sizes t = 0 then l ++ [t] else l, codeR l sizes t)
theorem put_j3 (l : List S36) (t : S36) (hn : l.length ≤ 300) (hp : ∀ t ∈ l, t.f2.length ≤ 1000) (hl : t.f2.length ≤ 1000) (b : Bool) :
    Ev (fun k => tiltyardref17_Put.j3 k l b t.f0 t.f1 t.f2 t.f3 t.f4) (if b = true then (l, 2) else tailR l t ((getR l t.f0).2.2.2.2.2 || dblR l t.f2)) := by
  by_cases hb : b = true
  · rw [if_pos hb]
    refine Ev.step (f := fun _ => some _) (fun k => ?_) (Ev.now _)
    simp only [tiltyardref17_Put.j3]
    rw [if_pos hb]
  · rw [if_neg hb]
    refine Ev.step (f := fun k => (tiltyardref17_Get.f k l t.f0).bind fun g => tiltyardref17_Put.l1 k l g.2.2.2.2.2 ((0 : Nat) : Int) t.f0 t.f1 t.f2 t.f3 t.f4) (fun k => ?_) ?_
    · simp only [tiltyardref17_Put.j3]
      rw [if_neg hb]
      rfl
    · refine Ev.bind (get_ev l _ (by omega)) ?_
      have := put_l1 l t hn hp hl t.f2.length 0 (getR l t.f0).2.2.2.2.2 (by omega)
      rw [← List.range_eq_range'] at this
      exact this
theorem put_j2 (l : List S36) (t : S36) (hn : l.length ≤ 300) (hp : ∀ t ∈ l, t.f2.length ≤ 1000) (hl : t.f2.length ≤ 1000) (b : Bool) :
    Ev (fun k => tiltyardref17_Put.j2 k l b t.f0 t.f1 t.f2 t.f3 t.f4) (if b = true then (l, 21) else if t.f3 < 0 ∨ t.f3 > 10000 then (l, 2) else tailR l t ((getR l t.f0).2.2.2.2.2 || dblR l t.f2)) := by
  by_cases hb : b = true
  · rw [if_pos hb]
    refine Ev.step (f := fun _ => some _) (fun k => ?_) (Ev.now _)
    simp only [tiltyardref17_Put.j2]
    rw [if_pos hb]
  · rw [if_neg hb]
    by_cases h3 : t.f3 < 0
    · rw [if_pos (.inl h3)]
      refine Ev.step (f := fun k => tiltyardref17_Put.j3 k l true t.f0 t.f1 t.f2 t.f3 t.f4) (fun k => ?_) (by simpa using put_j3 l t hn hp hl true)
      simp only [tiltyardref17_Put.j2]
      rw [if_neg hb, if_pos h3]
    · refine Ev.step (f := fun k => tiltyardref17_Put.j3 k l (decide (t.f3 > 10000)) t.f0 t.f1 t.f2 t.f3 t.f4) (fun k => ?_) ?_
      · simp only [tiltyardref17_Put.j2]
        rw [if_neg hb, if_neg h3]
      · have := put_j3 l t hn hp hl (decide (t.f3 > 10000))
        by_cases h4 : t.f3 > 10000
        · rw [if_pos (.inr h4)]; simpa [h4] using this
        · rw [if_neg (by omega)]; simpa [h4] using this
theorem put_j1 (l : List S36) (ms : List S123) (t : S36) (hn : l.length ≤ 300) (hp : ∀ t ∈ l, t.f2.length ≤ 1000) (hl : t.f2.length ≤ 1000) (b : Bool) (hb : b = decide (t.f1 < 0 ∨ t.f1 ≥ ms.length)) :
    Ev (fun k => tiltyardref17_Put.j1 k l ms b t.f0 t.f1 t.f2 t.f3 t.f4) (if t.f1 < 0 ∨ t.f1 ≥ ms.length then (l, 20) else if t.f2.length = 0 ∨ (t.f2.length : Int) > (ms.map S123.f0).getD t.f1.toNat 0 then (l, 21) else if t.f3 < 0 ∨ t.f3 > 10000 then (l, 2) else tailR l t ((getR l t.f0).2.2.2.2.2 || dblR l t.f2)) := by
  by_cases h : t.f1 < 0 ∨ t.f1 ≥ ms.length
  · rw [if_pos h]
    refine Ev.step (f := fun _ => some _) (fun k => ?_) (Ev.now _)
    simp only [tiltyardref17_Put.j1]
    rw [if_pos (by rw [hb]; simpa using h)]
  · rw [if_neg h]
    have hbn : ¬ b = true := by rw [hb]; simpa using h
    by_cases h0 : t.f2.length = 0
    · rw [if_pos (.inl h0)]
      refine Ev.step (f := fun k => tiltyardref17_Put.j2 k l true t.f0 t.f1 t.f2 t.f3 t.f4) (fun k => ?_) (by simpa using put_j2 l t hn hp hl true)
      simp only [tiltyardref17_Put.j1]
      rw [if_neg hbn, if_pos (by omega)]
    · have hm : t.f1.toNat < ms.length := by omega
      have hr : (rd_T123 ms t.f1).f0 = (ms.map S123.f0).getD t.f1.toNat 0 := by simp [rd_T123, List.getD, hm]
      refine Ev.step (f := fun k => tiltyardref17_Put.j2 k l (decide ((t.f2.length : Int) > (ms.map S123.f0).getD t.f1.toNat 0)) t.f0 t.f1 t.f2 t.f3 t.f4) (fun k => ?_) ?_
      · simp only [tiltyardref17_Put.j1]
        rw [if_neg hbn, if_neg (by omega), if_pos (by omega), if_pos (by omega), hr]
      · have := put_j2 l t hn hp hl (decide ((t.f2.length : Int) > (ms.map S123.f0).getD t.f1.toNat 0))
        by_cases h4 : (t.f2.length : Int) > (ms.map S123.f0).getD t.f1.toNat 0
        · rw [if_pos (.inr h4)]; rw [if_pos (by simpa using h4)] at this; exact this
        · rw [if_neg (by omega)]; rw [if_neg (by simpa using h4)] at this; exact this
theorem put_l0 (l : List S36) (ms : List S123) (t : S36) (hn : l.length ≤ 300) (hp : ∀ t ∈ l, t.f2.length ≤ 1000) (hl : t.f2.length ≤ 1000) (h0 : ∀ p ∈ t.f2, 0 ≤ p) (R : List S36 × Int)
    (hR : Ev (fun k => tiltyardref17_Put.j1 k l ms (decide (t.f1 < 0 ∨ t.f1 ≥ ms.length)) t.f0 t.f1 t.f2 t.f3 t.f4) R) :
    ∀ d i b, i + d = t.f2.length → Ev (fun k => tiltyardref17_Put.l0 k l ms b (i : Int) t.f0 t.f1 t.f2 t.f3 t.f4) (if (b && (t.f2.drop i).all rightB) = true then R else (l, 14)) := by
  intro d
  induction d with
  | zero =>
    intro i b hi
    rw [List.drop_of_length_le (by omega)]
    by_cases hb : b = true
    · rw [if_pos (by simp [hb])]
      refine Ev.step (fun k => ?_) hR
      simp only [tiltyardref17_Put.l0]
      rw [if_neg (by omega), if_pos hb]
      by_cases h1 : t.f1 < 0
      · rw [if_pos h1]; congr 1; simp [h1]
      · rw [if_neg h1]; congr 1; simp [h1]
    · rw [if_neg (by simp [hb])]
      refine Ev.step (f := fun _ => some _) (fun k => ?_) (Ev.now _)
      simp only [tiltyardref17_Put.l0]
      rw [if_neg (by omega), if_neg hb]
  | succ d ih =>
    intro i b hi
    have hlt : i < t.f2.length := by omega
    have hr := rd_at t.f2 i hlt
    have hd : t.f2.drop i = t.f2[i] :: t.f2.drop (i + 1) := List.drop_eq_getElem_cons hlt
    have hx0 := h0 _ (List.getElem_mem hlt)
    by_cases hb : b = true
    · subst hb
      have := ih (i + 1) (rightB t.f2[i]) (by omega)
      have e : (true && (t.f2.drop i).all rightB) = (rightB t.f2[i] && (t.f2.drop (i + 1)).all rightB) := by
        rw [hd, List.all_cons, Bool.true_and]
      rw [e]
      refine Ev.step (fun k => ?_) this
      simp only [tiltyardref17_Put.l0]
      rw [if_pos (by omega), if_pos trivial, if_pos (by omega), hr, right_is hx0, wrap_up (by omega)]
      rfl
    · rw [if_neg (by simp [hb])]
      have := ih (i + 1) false (by omega)
      rw [if_neg (by simp)] at this
      refine Ev.step (fun k => ?_) this
      simp only [tiltyardref17_Put.l0]
      rw [if_pos (by omega), if_neg hb, wrap_up (by omega)]
theorem put_ev (l : List S36) (ms : List S123) (t : S36) (hn : l.length ≤ 300) (hp : ∀ t ∈ l, t.f2.length ≤ 1000) (hl : t.f2.length ≤ 1000) (h0 : ∀ p ∈ t.f2, 0 ≤ p) (hi : 0 ≤ t.f0) :
    Ev (fun k => tiltyardref17_Put.f k l ms t.f0 t.f1 t.f2 t.f3 t.f4) (putR l (ms.map S123.f0) t) := by
  have h := put_l0 l ms t hn hp hl h0 _ (put_j1 l ms t hn hp hl _ rfl) t.f2.length 0 (rightB t.f0) (by omega)
  rw [List.drop_zero] at h
  have e : putR l (ms.map S123.f0) t = if (rightB t.f0 && t.f2.all rightB) = true then (if t.f1 < 0 ∨ t.f1 ≥ ms.length then (l, 20) else if t.f2.length = 0 ∨ (t.f2.length : Int) > (ms.map S123.f0).getD t.f1.toNat 0 then (l, 21) else if t.f3 < 0 ∨ t.f3 > 10000 then (l, 2) else tailR l t ((getR l t.f0).2.2.2.2.2 || dblR l t.f2)) else (l, 14) := by
    unfold putR codeR tailR
    rw [List.length_map]
    by_cases h1 : (rightB t.f0 && t.f2.all rightB) = true
    · have h1' : (!rightB t.f0 || t.f2.any (fun x => !rightB x)) = false := by
        rw [Bool.and_eq_true, List.all_eq_true] at h1
        rw [Bool.or_eq_false_iff, h1.1, List.any_eq_false]
        exact ⟨rfl, fun x hx => by simp [h1.2 x hx]⟩
      simp only [h1', Bool.false_eq_true, if_false, if_pos h1]
      split
      · rfl
      · split
        · rfl
        · split
          · rfl
          · split
            · rfl
            · split <;> rfl
    · have h1' : (!rightB t.f0 || t.f2.any (fun x => !rightB x)) = true := by
        cases hc : (!rightB t.f0 || t.f2.any (fun x => !rightB x)) with
        | true => rfl
        | false =>
          rw [Bool.or_eq_false_iff, List.any_eq_false] at hc
          exact absurd (by rw [Bool.and_eq_true, List.all_eq_true]; exact ⟨by simpa using hc.1, fun p hp => by simpa using hc.2 p hp⟩) h1
      simp only [h1', if_true, if_neg h1]
      rfl
  rw [e]
  unfold tiltyardref17_Put.f
  simp only [right_is hi, Option.bind_some]
  exact h
end Go.Proofs.Ytlkpmlcmgggifaa
