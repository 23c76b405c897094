/- The queue's invariant, in plain Lean. -/
import Derived.Test.YtlkpmlcmgggifaaQq
set_option linter.unusedVariables false
set_option linter.unusedSimpArgs false
namespace Go.Proofs.Ytlkpmlcmgggifaa
open Go.RowKit
/-- A ticket that may stand in a queue of these sizes. -/
structure OkT (sizes : List Int) (t : Tk) : Prop where
  id : rightB t.id = true
  pls : ∀ x ∈ t.pl, rightB x = true
  m0 : 0 ≤ t.mode
  m1 : t.mode < sizes.length
  n0 : t.pl.length ≠ 0
  n1 : (t.pl.length : Int) ≤ sizes.getD t.mode.toNat 0
  r0 : 0 ≤ t.rating
  r1 : t.rating ≤ 10000
  nodup : t.pl.Nodup
structure Inv (ts : List Tk) (sizes : List Int) : Prop where
  sorted : SortedT ts
  ids : ts.Pairwise (fun a b => a.id ≠ b.id)
  apart : ts.Pairwise (fun a b => ∀ x ∈ a.pl, x ∉ b.pl)
  one : ∀ t ∈ ts, OkT sizes t
  many : ∀ m, (ts.filter (fun t => t.mode == m)).length ≤ 16
theorem Inv.nil (sizes : List Int) : Inv [] sizes := ⟨List.Pairwise.nil, List.Pairwise.nil, List.Pairwise.nil, fun t ht => by simp at ht, fun m => by simp⟩
theorem rightB_ne {x : Int} (h : rightB x = true) : x ≠ 0 := by
  rintro rfl
  revert h; decide
theorem OkT.key {sizes : List Int} {t t' : Tk} (h : OkT sizes t) (hk : t'.key = t.key) : OkT sizes t' := by
  obtain ⟨i, m, pv, pl, r, s⟩ := t
  obtain ⟨i', m', pv', pl', r', s'⟩ := t'
  simp only [Tk.key, Prod.mk.injEq] at hk
  obtain ⟨rfl, rfl, rfl, rfl, rfl⟩ := hk
  exact ⟨h.id, h.pls, h.m0, h.m1, h.n0, h.n1, h.r0, h.r1, h.nodup⟩
theorem nodup_of_hits {ts : List Tk} {pl : List Int} (h : doubledB ts pl = false) : pl.Nodup := by
  rw [List.nodup_iff_pairwise_ne, List.pairwise_iff_getElem]
  intro i j hi hj hij e
  have := doubled_yes (ts := ts) (k := j) hj (by
    unfold hitB
    rw [Bool.or_eq_true]; left
    have e2 : pl.getD j 0 = pl[j] := by simp [List.getD, hj]
    rw [e2, ← e, decide_eq_true_eq]
    rw [List.mem_take_iff_getElem]
    exact ⟨i, by omega, rfl⟩)
  rw [this] at h; cases h
theorem apart_of_hits {ts : List Tk} {pl : List Int} (hid : ∀ y ∈ ts, rightB y.id = true) (h : doubledB ts pl = false) : ∀ y ∈ ts, ∀ x ∈ y.pl, x ∉ pl := by
  intro y hy x hx hxp
  obtain ⟨k, hk, e⟩ := List.getElem_of_mem hxp
  have := doubled_yes (ts := ts) (k := k) hk (by
    unfold hitB
    rw [Bool.or_eq_true]; right
    have e2 : pl.getD k 0 = x := by simp [List.getD, hk, e]
    rw [e2, ofI]
    cases hf : ts.find? (fun t => decide (x ∈ t.pl)) with
    | none =>
      rw [List.find?_eq_none] at hf
      exact absurd hx (by simpa using hf y hy)
    | some z =>
      have hz := rightB_ne (hid z (List.mem_of_find?_eq_some hf))
      simpa [idOf] using hz)
  rw [this] at h; cases h
theorem put_zero {ts : List Tk} {sizes : List Int} {t : Tk} (hid : ∀ y ∈ ts, rightB y.id = true) (h : putCode ts sizes t = 0) :
    OkT sizes t ∧ (∀ y ∈ ts, y.id ≠ t.id) ∧ (∀ y ∈ ts, ∀ x ∈ y.pl, x ∉ t.pl) ∧ (ts.filter (fun y => y.mode == t.mode)).length < 16 := by
  unfold putCode at h
  split at h
  · cases h
  rename_i h1
  split at h
  · cases h
  rename_i h2
  split at h
  · cases h
  rename_i h3
  split at h
  · cases h
  rename_i h4
  split at h
  · cases h
  rename_i h5
  split at h
  · cases h
  rename_i h6
  simp only [Bool.not_eq_true, Bool.or_eq_false_iff, Bool.not_eq_false'] at h1 h5
  obtain ⟨h1a, h1b⟩ := h1
  obtain ⟨h5a, h5b⟩ := h5
  refine ⟨⟨h1a, ?_, by omega, by omega, by omega, by omega, by omega, by omega, nodup_of_hits h5b⟩, ?_, apart_of_hits hid h5b, by omega⟩
  · intro x hx
    simpa using List.any_eq_false.1 h1b x hx
  · intro y hy e
    rw [Option.isSome_eq_false_iff, Option.isNone_iff_eq_none, List.find?_eq_none] at h5a
    exact h5a y hy (by simpa using e)
theorem put_zero_iff {ts : List Tk} {sizes : List Int} {t : Tk} (h1 : OkT sizes t) (h2 : ∀ y ∈ ts, y.id ≠ t.id) (h3 : ∀ y ∈ ts, ∀ x ∈ y.pl, x ∉ t.pl) (h4 : (ts.filter (fun y => y.mode == t.mode)).length < 16) : putCode ts sizes t = 0 := by
  unfold putCode
  have e1 : (!rightB t.id || t.pl.any (fun x => !rightB x)) = false := by
    rw [Bool.or_eq_false_iff, h1.id, List.any_eq_false]
    exact ⟨rfl, fun x hx => by simp [h1.pls x hx]⟩
  have e5 : ((ts.find? (fun y => y.id == t.id)).isSome || doubledB ts t.pl) = false := by
    rw [Bool.or_eq_false_iff, Option.isSome_eq_false_iff, Option.isNone_iff_eq_none, List.find?_eq_none]
    refine ⟨fun y hy => by simpa using h2 y hy, doubled_no fun j hj => ?_⟩
    have e2 : t.pl.getD j 0 = t.pl[j] := by simp [List.getD, hj]
    unfold hitB
    rw [Bool.or_eq_false_iff, e2]
    constructor
    · rw [decide_eq_false_iff_not, List.mem_take_iff_getElem]
      rintro ⟨i, hi, e⟩
      have := (List.pairwise_iff_getElem.1 (List.nodup_iff_pairwise_ne.1 h1.nodup)) i j (by omega) hj (by omega)
      exact this e
    · have : ts.find? (fun y => decide (t.pl[j] ∈ y.pl)) = none := by
        rw [List.find?_eq_none]
        intro y hy hc
        exact h3 y hy _ (by simpa using hc) (List.getElem_mem hj)
      simp [ofI, this, idOf]
  have := h1.m0; have := h1.m1; have := h1.n0; have := h1.n1; have := h1.r0; have := h1.r1
  rw [e1, if_neg (by decide), if_neg (by omega), if_neg (by omega), if_neg (by omega), e5, if_neg (by decide), if_neg (by omega)]
theorem insT_perm (t : Tk) (ts : List Tk) : (insT t ts).Perm (t :: ts) := by
  induction ts with
  | nil => exact List.Perm.refl _
  | cons y r ih =>
    simp only [insT]
    split
    · exact (ih.cons y).trans (List.Perm.swap t y r)
    · exact List.Perm.refl _
theorem insT_sorted (t : Tk) (ts : List Tk) (hs : SortedT ts) (hne : ∀ y ∈ ts, y.id ≠ t.id) : SortedT (insT t ts) := by
  induction ts with
  | nil => simp [insT, SortedT]
  | cons y r ih =>
    have hy := hne y (by simp)
    obtain ⟨h1, h2⟩ := List.pairwise_cons.1 hs
    simp only [insT]
    split
    · rename_i hlt
      refine List.pairwise_cons.2 ⟨fun z hz => ?_, ih h2 (fun z hz => hne z (by simp [hz]))⟩
      rcases insT_mem t r z hz with rfl | hz
      · exact hlt
      · exact h1 z hz
    · rename_i hlt
      have hty : ordT t y < 0 := by
        rw [ordT_neg] at hlt ⊢
        omega
      refine List.pairwise_cons.2 ⟨fun z hz => ?_, hs⟩
      rcases List.mem_cons.1 hz with rfl | hz
      · exact hty
      · have := h1 z hz
        rw [ordT_neg] at this hty ⊢
        omega
theorem Inv.ins {ts : List Tk} {sizes : List Int} {t t' : Tk} (h : Inv ts sizes) (hc : putCode ts sizes t = 0) (hk : t'.key = t.key) : Inv (insT t' ts) sizes := by
  obtain ⟨h1, h2, h3, h4⟩ := put_zero (fun y hy => (h.one y hy).id) hc
  obtain ⟨i, m, pv, pl, r, s⟩ := t
  obtain ⟨i', m', pv', pl', r', s'⟩ := t'
  simp only [Tk.key, Prod.mk.injEq] at hk
  obtain ⟨rfl, rfl, rfl, rfl, rfl⟩ := hk
  have hp := insT_perm ⟨i', m', pv', pl', r', s'⟩ ts
  refine ⟨insT_sorted _ _ h.sorted h2, ?_, ?_, ?_, ?_⟩
  · refine (hp.pairwise_iff (fun {a b} hab e => hab e.symm)).2 (List.pairwise_cons.2 ⟨fun y hy e => h2 y hy e.symm, h.ids⟩)
  · refine (hp.pairwise_iff (fun {a b} hab x hx hxa => hab x hxa hx)).2 (List.pairwise_cons.2 ⟨fun y hy x hx hxy => h3 y hy x hxy hx, h.apart⟩)
  · intro y hy
    rcases insT_mem _ _ y hy with rfl | hy
    · exact h1.key rfl
    · exact h.one y hy
  · intro m2
    have hl := (hp.filter (fun t => t.mode == m2)).length_eq
    rw [hl, List.filter_cons]
    split
    · rename_i hm
      simp only [beq_iff_eq] at hm
      subst hm
      simp only [List.length_cons]
      exact h4
    · exact h.many m2
theorem Inv.erase {ts : List Tk} {sizes : List Int} (h : Inv ts sizes) (k : Nat) : Inv (ts.eraseIdx k) sizes := by
  have hs := List.eraseIdx_sublist ts k
  exact ⟨h.sorted.sublist hs, h.ids.sublist hs, h.apart.sublist hs, fun t ht => h.one t (hs.subset ht), fun m => Nat.le_trans ((hs.filter _).length_le) (h.many m)⟩
theorem split_at {ts : List Tk} {k : Nat} (hk : k < ts.length) : ts = ts.take k ++ ts.getD k Tk.zero :: ts.drop (k + 1) ∧ ts.eraseIdx k = ts.take k ++ ts.drop (k + 1) := by
  have e : ts.getD k Tk.zero = ts[k] := by simp [List.getD, hk]
  rw [e, List.eraseIdx_eq_take_drop_succ]
  exact ⟨by rw [List.getElem_cons_drop, List.take_append_drop], rfl⟩
theorem put_again {ts : List Tk} {sizes : List Int} {t : Tk} {k : Nat} (h : Inv ts sizes) (hk : k < ts.length) (ht : t.key = (ts.getD k Tk.zero).key) : putCode (ts.eraseIdx k) sizes t = 0 := by
  obtain ⟨e1, e2⟩ := split_at hk
  have hm : ts.getD k Tk.zero ∈ ts := getD_mem _ _ _ hk
  have hok := (h.one _ hm).key ht
  have hi := h.ids; have ha := h.apart; have hc := h.many t.mode
  rw [e1] at hi ha
  rw [e1] at hc
  obtain ⟨i1, i2, i3⟩ := List.pairwise_append.1 hi
  obtain ⟨i4, i5⟩ := List.pairwise_cons.1 i2
  obtain ⟨a1, a2, a3⟩ := List.pairwise_append.1 ha
  obtain ⟨a4, a5⟩ := List.pairwise_cons.1 a2
  rw [List.filter_append, List.filter_cons] at hc
  have h1 : t.id = (ts.getD k Tk.zero).id := by simpa [Tk.key] using congrArg (·.1) ht
  have h2 : t.mode = (ts.getD k Tk.zero).mode := by simpa [Tk.key] using congrArg (·.2.1) ht
  have h3 : t.pl = (ts.getD k Tk.zero).pl := by simpa [Tk.key] using congrArg (·.2.2.1) ht
  rw [e2]
  refine put_zero_iff hok ?_ ?_ ?_
  · intro y hy e
    rw [h1] at e
    rcases List.mem_append.1 hy with hy | hy
    · exact i3 y hy _ (by simp) e
    · exact i4 y hy e.symm
  · intro y hy x hx hxt
    rw [h3] at hxt
    rcases List.mem_append.1 hy with hy | hy
    · exact a3 y hy _ (by simp) x hx hxt
    · exact a4 y hy x hxt hx
  · rw [List.filter_append, List.length_append]
    rw [h2] at hc ⊢
    simp only [beq_self_eq_true, if_true, List.length_append, List.length_cons] at hc
    omega
theorem ins_again {ts : List Tk} {sizes : List Int} {t : Tk} {k : Nat} (h : Inv ts sizes) (hk : k < ts.length) (ht : t.key = (ts.getD k Tk.zero).key) : (insT t (ts.eraseIdx k)).map Tk.key = ts.map Tk.key := by
  obtain ⟨e1, e2⟩ := split_at hk
  have hs := h.sorted
  unfold SortedT at hs
  rw [e1] at hs
  obtain ⟨s1, s2, s3⟩ := List.pairwise_append.1 hs
  obtain ⟨s4, s5⟩ := List.pairwise_cons.1 s2
  have h1 : t.id = (ts.getD k Tk.zero).id := by simpa [Tk.key] using congrArg (·.1) ht
  have h2 : t.since = (ts.getD k Tk.zero).since := by simpa [Tk.key] using congrArg (·.2.2.2.2) ht
  have key : insT t (ts.take k ++ ts.drop (k + 1)) = ts.take k ++ t :: ts.drop (k + 1) := by
    have hA : ∀ y ∈ ts.take k, ordT y t < 0 := fun y hy => by
      have := s3 y hy (ts.getD k Tk.zero) (by simp)
      rw [ordT_neg] at this ⊢
      rw [h1, h2]; exact this
    have hB : ∀ y ∈ ts.drop (k + 1), ¬ ordT y t < 0 := fun y hy => by
      have := s4 y hy
      rw [ordT_neg] at this ⊢
      rw [h1, h2]; omega
    revert hA hB
    generalize ts.take k = l
    generalize ts.drop (k + 1) = r
    intro hA hB
    induction l with
    | nil =>
      cases r with
      | nil => rfl
      | cons y r => simp only [List.nil_append, insT, if_neg (hB y (by simp))]
    | cons y l ih =>
      simp only [List.cons_append, insT, if_pos (hA y (by simp))]
      rw [ih (fun z hz => hA z (by simp [hz]))]
  rw [e2, key]
  conv => rhs; rw [e1]
  simp [ht]
theorem filter_keys (m : Int) : ∀ (ts us : List Tk), ts.map Tk.key = us.map Tk.key → (ts.filter (fun t => t.mode == m)).map Tk.key = (us.filter (fun t => t.mode == m)).map Tk.key
  | [], [], _ => rfl
  | [], _ :: _, h => by simp at h
  | _ :: _, [], h => by simp at h
  | t :: ts, u :: us, h => by
    simp only [List.map_cons, List.cons.injEq] at h
    have hm : t.mode = u.mode := by simpa [Tk.key] using congrArg (·.2.1) h.1
    have ih := filter_keys m ts us h.2
    simp only [List.filter_cons, hm]
    split
    · simp [h.1, ih]
    · exact ih
theorem find_of {ts : List Tk} {sizes : List Int} (h : Inv ts sizes) {t : Tk} (ht : t ∈ ts) : ts.find? (fun y => y.id == t.id) = some t := by
  have hi := h.ids
  clear h
  induction ts with
  | nil => simp at ht
  | cons y r ih =>
    obtain ⟨h1, h2⟩ := List.pairwise_cons.1 hi
    rcases List.mem_cons.1 ht with rfl | hm
    · simp
    · rw [List.find?_cons_of_neg (by simpa using h1 t hm)]
      exact ih hm h2
end Go.Proofs.Ytlkpmlcmgggifaa
