/- QueueOne's walk. -/
import Derived.Test.YtlkpmlcmgggifaaQw
set_option linter.unusedVariables false
set_option linter.unusedSimpArgs false
namespace Go.Proofs.Ytlkpmlcmgggifaa
open Go.RowKit
/-- a mode's tickets -/
def lm (ts : List Tk) (m : Int) : List Tk := ts.filter (fun t => t.mode == m)
def pls (l : List Tk) : List Int := l.flatMap Tk.pl
/-- the players of the modes before m -/
def pre (ts : List Tk) : Nat → List Int
  | 0 => []
  | m + 1 => pre ts m ++ pls (lm ts m)
def cnt (ts : List Tk) : Nat → Nat
  | 0 => 0
  | m + 1 => cnt ts m + (lm ts m).length
theorem pls_nodup {ts : List Tk} (h1 : ts.Pairwise (fun a b => ∀ x ∈ a.pl, x ∉ b.pl)) (h2 : ∀ t ∈ ts, t.pl.Nodup) : (pls ts).Nodup := by
  induction ts with
  | nil => simp [pls]
  | cons t r ih =>
    obtain ⟨a, b⟩ := List.pairwise_cons.1 h1
    simp only [pls, List.flatMap_cons]
    rw [List.nodup_append]
    refine ⟨h2 t (by simp), ih b (fun y hy => h2 y (by simp [hy])), ?_⟩
    intro x hx y hy e
    subst e
    obtain ⟨z, hz, hxz⟩ := List.mem_flatMap.1 hy
    exact a z hz x hx hxz
theorem mem_pls {l : List Tk} {x : Int} : x ∈ pls l ↔ ∃ t ∈ l, x ∈ t.pl := by simp [pls, List.mem_flatMap]
theorem apart_two {ts : List Tk} (h1 : ts.Pairwise (fun a b => ∀ x ∈ a.pl, x ∉ b.pl)) {a b : Tk} (ha : a ∈ ts) (hb : b ∈ ts) (hne : a ≠ b) {x : Int} (hx : x ∈ a.pl) : x ∉ b.pl := by
  induction ts with
  | nil => simp at ha
  | cons t r ih =>
    obtain ⟨c, d⟩ := List.pairwise_cons.1 h1
    rcases List.mem_cons.1 ha with e | ha'
    · rcases List.mem_cons.1 hb with e2 | hb'
      · exact absurd (e.trans e2.symm) hne
      · subst e; exact c b hb' x hx
    · rcases List.mem_cons.1 hb with e2 | hb'
      · subst e2; exact fun hxb => c a ha' x hxb hx
      · exact ih d ha' hb'
theorem pre2_nodup {ts : List Tk} {sizes : List Int} (h : Inv ts sizes) : (pre ts 2).Nodup := by
  have hs : ∀ m, (pls (lm ts m)).Nodup := fun m => pls_nodup (h.apart.sublist List.filter_sublist) (fun t ht => (h.one t (List.mem_filter.1 ht).1).nodup)
  show ([] ++ pls (lm ts ((0 : Nat) : Int)) ++ pls (lm ts ((1 : Nat) : Int))).Nodup
  rw [List.nil_append, List.nodup_append]
  refine ⟨hs _, hs _, ?_⟩
  intro x hx y hy e
  subst e
  obtain ⟨a, ha, hxa⟩ := mem_pls.1 hx
  obtain ⟨b, hb, hxb⟩ := mem_pls.1 hy
  obtain ⟨ha1, ha2⟩ := List.mem_filter.1 ha
  obtain ⟨hb1, hb2⟩ := List.mem_filter.1 hb
  refine apart_two h.apart ha1 hb1 ?_ hxa hxb
  rintro rfl
  simp at ha2 hb2
  omega
theorem pls_len (l : List Tk) (B : Nat) (h : ∀ t ∈ l, t.pl.length ≤ B) : (pls l).length ≤ B * l.length := by
  induction l with
  | nil => simp [pls]
  | cons t r ih =>
    have h1 := h t (by simp)
    have h2 := ih (fun y hy => h y (by simp [hy]))
    simp only [pls, List.flatMap_cons, List.length_append, List.length_cons] at h2 ⊢
    rw [Nat.mul_succ]; omega
theorem pre2_len {ts : List Tk} (h : Inv ts [1, 4]) : (pre ts 2).length ≤ 128 := by
  have hb : ∀ t ∈ ts, t.pl.length ≤ 4 := fun t ht => by
    have o := h.one t ht
    have h1 := o.n1; have h2 := o.m0; have h3 := o.m1
    simp at h3
    rcases (show t.mode = 0 ∨ t.mode = 1 by omega) with e | e <;> rw [e] at h1 <;> simp at h1 <;> omega
  have hl : ∀ m, (pls (lm ts m)).length ≤ 64 := fun m => by
    have h1 := pls_len (lm ts m) 4 (fun t ht => hb t (List.mem_filter.1 ht).1)
    have h2 : (lm ts m).length ≤ 16 := h.many m
    omega
  show ([] ++ pls (lm ts ((0 : Nat) : Int)) ++ pls (lm ts ((1 : Nat) : Int))).length ≤ 128
  have := hl ((0 : Nat) : Int); have := hl ((1 : Nat) : Int)
  simp only [List.nil_append, List.length_append]
  omega
theorem cnt2 {ts : List Tk} (h : ∀ t ∈ ts, 0 ≤ t.mode ∧ t.mode < 2) : cnt ts 2 = ts.length := by
  show 0 + (lm ts ((0 : Nat) : Int)).length + (lm ts ((1 : Nat) : Int)).length = ts.length
  induction ts with
  | nil => rfl
  | cons t r ih =>
    have h1 := ih (fun y hy => h y (by simp [hy]))
    have h2 := h t (by simp)
    rcases (show t.mode = 0 ∨ t.mode = 1 by omega) with e | e <;> simp only [lm, List.filter_cons, e] at h1 ⊢ <;> simp at h1 ⊢ <;> omega
theorem pre_len {ts : List Tk} {m : Nat} (hm : m ≤ 1) : (pre ts m ++ pls (lm ts m)).length ≤ (pre ts 2).length ∧ ((pre ts 2).Nodup → (pre ts m ++ pls (lm ts m)).Nodup) := by
  rcases (show m = 0 ∨ m = 1 by omega) with rfl | rfl
  · have e : pre ts 2 = (pre ts 0 ++ pls (lm ts ((0 : Nat) : Int))) ++ pls (lm ts ((1 : Nat) : Int)) := rfl
    rw [e]
    exact ⟨by simp only [List.length_append]; omega, fun h => (List.nodup_append.1 h).1⟩
  · exact ⟨Nat.le_refl _, fun h => h⟩
/-- the k-th player of the i-th ticket, and what stands before it -/
theorem player_new {xs : List Int} {l : List Tk} (hn : (xs ++ pls l).Nodup) {i k : Nat} (hi : i < l.length) (hk : k < (l.getD i Tk.zero).pl.length) :
    (l.getD i Tk.zero).pl.getD k 0 ∉ xs ++ pls (l.take i) ++ (l.getD i Tk.zero).pl.take k ∧ (xs ++ pls (l.take i) ++ (l.getD i Tk.zero).pl.take k).length < (xs ++ pls l).length := by
  have e1 : l.getD i Tk.zero = l[i] := by simp [List.getD, hi]
  have e3 : l = l.take i ++ (l.getD i Tk.zero :: l.drop (i + 1)) := by rw [e1, List.getElem_cons_drop, List.take_append_drop]
  generalize l.getD i Tk.zero = t at hk e3 ⊢
  have e2 : t.pl.getD k 0 = t.pl[k] := by simp [List.getD, hk]
  have e4 : t.pl = t.pl.take k ++ (t.pl[k] :: t.pl.drop (k + 1)) := by rw [List.getElem_cons_drop, List.take_append_drop]
  rw [e2]
  generalize t.pl[k] = x at e4 ⊢
  have e5 : xs ++ pls l = (xs ++ pls (l.take i) ++ t.pl.take k) ++ (x :: (t.pl.drop (k + 1) ++ pls (l.drop (i + 1)))) := by
    have h1 : pls l = pls (l.take i) ++ (t.pl ++ pls (l.drop (i + 1))) := by
      conv => lhs; rw [e3]
      simp only [pls, List.flatMap_append, List.flatMap_cons]
    have h2 : t.pl ++ pls (l.drop (i + 1)) = t.pl.take k ++ (x :: (t.pl.drop (k + 1) ++ pls (l.drop (i + 1)))) := by
      conv => lhs; rw [e4]
      simp [List.append_assoc]
    rw [h1, h2]
    simp [List.append_assoc]
  rw [e5] at hn ⊢
  constructor
  · intro hx
    exact (List.nodup_append.1 hn).2.2 _ hx _ (by simp) rfl
  · simp
theorem of_one {ts : List Tk} {sizes : List Int} (h : Inv ts sizes) {t : Tk} (ht : t ∈ ts) {x : Int} (hx : x ∈ t.pl) : idOf (ts.find? (fun y => decide (x ∈ y.pl))) = t.id := by
  cases hf : ts.find? (fun y => decide (x ∈ y.pl)) with
  | none =>
    rw [List.find?_eq_none] at hf
    exact absurd hx (by simpa using hf t ht)
  | some z =>
    have hz := List.mem_of_find?_eq_some hf
    have hxz : x ∈ z.pl := by simpa using List.find?_some hf
    by_cases e : t = z
    · rw [e]; rfl
    · exact absurd hxz (apart_two h.apart ht hz e hx)
theorem order_at {ts : List Tk} {sizes : List Int} (h : Inv ts sizes) {m : Int} {i : Nat} (h0 : 0 < i) (hi : i < (lm ts m).length) : ordT ((lm ts m).getD (i - 1) Tk.zero) ((lm ts m).getD i Tk.zero) < 0 := by
  have hp : (lm ts m).Pairwise (fun a b => ordT a b < 0) := List.Pairwise.sublist List.filter_sublist h.sorted
  have := (List.pairwise_iff_getElem.1 hp) (i - 1) i (by omega) hi (by omega)
  have e1 : (lm ts m).getD i Tk.zero = (lm ts m)[i] := by simp [List.getD, hi]
  have e2 : (lm ts m).getD (i - 1) Tk.zero = (lm ts m)[i - 1] := by simp [List.getD, show i - 1 < (lm ts m).length by omega]
  rw [e1, e2]; exact this
end Go.Proofs.Ytlkpmlcmgggifaa
