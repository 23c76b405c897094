/- Put. -/
import Derived.Test.YtlkpmlcmgggifaaQl
set_option linter.unusedVariables false
set_option linter.unusedSimpArgs false
namespace Go.Proofs.Ytlkpmlcmgggifaa
open Go.RowKit
/-- The ticket in its place. -/
def insT (t : Tk) : List Tk → List Tk
  | [] => [t]
  | y :: r => if ordT y t < 0 then y :: insT t r else t :: y :: r
theorem insT_at (t : Tk) : ∀ (ts : List Tk) (k : Nat), k ≤ ts.length → (∀ i, i < k → ordT (ts.getD i Tk.zero) t < 0) → (∀ i, k ≤ i → i < ts.length → 0 ≤ ordT (ts.getD i Tk.zero) t) → insT t ts = ts.take k ++ t :: ts.drop k := by
  intro ts
  induction ts with
  | nil => intro k hk _ _; simp [insT]
  | cons y r ih =>
    intro k hk h1 h2
    cases k with
    | zero =>
      have h0 : 0 ≤ ordT y t := by simpa using h2 0 (by omega) (by simp)
      simp [insT, show ¬ ordT y t < 0 by omega]
    | succ k =>
      have h0 : ordT y t < 0 := by simpa using h1 0 (by omega)
      simp only [insT, if_pos h0]
      rw [ih k (by simpa using hk) (fun i hi => by simpa using h1 (i + 1) (by omega)) (fun i hi hl => by simpa using h2 (i + 1) (by omega) (by simpa using hl))]
      simp
/-- What Put answers. -/
def putCode (ts : List Tk) (sizes : List Int) (t : Tk) : Int :=
  if !rightB t.id || t.pl.any (fun x => !rightB x) then 14
  else if t.mode < 0 ∨ t.mode ≥ sizes.length then 20
  else if t.pl.length = 0 ∨ (t.pl.length : Int) > sizes.getD t.mode.toNat 0 then 21
  else if t.rating < 0 ∨ t.rating > 10000 then 2
  else if (ts.find? (fun y => y.id == t.id)).isSome || doubledB ts t.pl then 11
  else if (ts.filter (fun y => y.mode == t.mode)).length ≥ 16 then 10
  else 0
def PutRes (w w' : World) (base g : Nat) (va vs : Value) (ts : List Tk) (sizes : List Int) (t : Tk) (e : Ending) : Prop :=
  e = .returned (.int .i64 (putCode ts sizes t)) ∧
  (putCode ts sizes t ≠ 0 → Below w.heap.size w w') ∧
  (putCode ts sizes t = 0 → ∃ va' t', t'.key = t.key ∧ QRep w' base g va' vs (insT t' ts) sizes ∧ Kept w w' (fun k => k = g ∨ va.ownBlock = some k) ∧ (∀ k, va'.ownBlock = some k → va.ownBlock = some k ∨ w.heap.size ≤ k) ∧ (∀ k, t'.pv.ownBlock = some k → w.heap.size ≤ k))
theorem got_form {w w' : World} {o : Option Tk} {e : Ending} (h : GotCopy w w' o e) : ∃ id mode A n c rating since, e = .returned (.tuple #[.agg #[.int .u32 id, .int .i64 mode, .slice A n c, .int .i64 rating, .int .i64 since], .bool o.isSome]) ∧ Below w.heap.size w w' := by
  cases o with
  | none => obtain ⟨rfl, hb⟩ := h; exact ⟨0, 0, none, 0, 0, 0, 0, rfl, hb⟩
  | some t =>
    obtain ⟨pv', rfl, ho, hb⟩ := h
    obtain ⟨A, c, rfl, _⟩ := ho.shows.form
    exact ⟨_, _, A, _, c, _, _, rfl, hb⟩
theorem put_err {w w' : World} {base g : Nat} {va vs : Value} {ts : List Tk} {sizes : List Int} {t : Tk} {c : Int} (hc : putCode ts sizes t = c) (hn : c ≠ 0) (hb : Below w.heap.size w w') : PutRes w w' base g va vs ts sizes t (.returned (.int .i64 c)) :=
  ⟨by rw [hc], fun _ => hb, fun h => absurd (hc.symm.trans h) hn⟩
/-- The tickets stand in order. -/
def SortedT (ts : List Tk) : Prop := ts.Pairwise (fun a b => ordT a b < 0)
theorem ordI_neg (a0 a4 b0 b4 : Int) : ordI a0 a4 b0 b4 < 0 ↔ a4 < b4 ∨ (a4 = b4 ∧ a0 < b0) := by
  unfold ordI cmpOr cmpI
  repeat' split
  all_goals omega
theorem ordT_neg (a b : Tk) : ordT a b < 0 ↔ a.since < b.since ∨ (a.since = b.since ∧ a.id < b.id) := ordI_neg _ _ _ _
theorem sorted_mono {ts : List Tk} (h : SortedT ts) (x : Tk) : ∀ i j, i ≤ j → j < ts.length → ordT (ts.getD j Tk.zero) x < 0 → ordT (ts.getD i Tk.zero) x < 0 := by
  intro i j hij hj hx
  by_cases e : i = j
  · subst e; exact hx
  · have h1 := (List.pairwise_iff_getElem.1 h) i j (by omega) hj (by omega)
    have e1 : ts.getD i Tk.zero = ts[i]'(by omega) := by simp [List.getD, show i < ts.length by omega]
    have e2 : ts.getD j Tk.zero = ts[j] := by simp [List.getD, hj]
    rw [e1]; rw [e2] at hx
    rw [ordT_neg] at *
    omega
theorem kept_drewN (w : World) (n : Nat) : Below w.heap.size w (w.drewN n) := below_drewN (Below.refl _ _) n
theorem flat_len (ts : List Tk) : (ts.flatMap Tk.cs).length = ts.length * 5 := by
  induction ts with
  | nil => rfl
  | cons t r ih => rw [List.flatMap_cons, List.length_append, ih, List.length_cons, show t.cs.length = 5 from rfl]; omega
theorem flat_take (ts : List Tk) (k : Nat) (hk : k ≤ ts.length) : (ts.flatMap Tk.cs).take (k * 5) = (ts.take k).flatMap Tk.cs ∧ (ts.flatMap Tk.cs).drop (k * 5) = (ts.drop k).flatMap Tk.cs := by
  have h := List.take_append_drop k ts
  have hl : ((ts.take k).flatMap Tk.cs).length = k * 5 := by rw [flat_len, List.length_take, Nat.min_eq_left hk]
  have e : ts.flatMap Tk.cs = (ts.take k).flatMap Tk.cs ++ (ts.drop k).flatMap Tk.cs := by rw [← List.flatMap_append, h]
  rw [e]
  exact ⟨List.take_left' hl, List.drop_left' hl⟩
theorem flat_one {w : World} {base e : Nat} {ts : List Tk} (h : ∀ t ∈ ts, OwnN w base e .u32 t.pv t.pl) : ∀ u ∈ ts.flatMap Tk.cs, u.oneCell' = true := by
  intro u hu
  obtain ⟨t, ht, hm⟩ := List.mem_flatMap.1 hu
  exact cs_one t (shows_oneCell (h t ht).shows) u hm
theorem insT_len (t : Tk) (ts : List Tk) : (insT t ts).length = ts.length + 1 := by
  induction ts with
  | nil => rfl
  | cons y r ih => simp only [insT]; split <;> simp [ih]
theorem insT_mem (t : Tk) (ts : List Tk) : ∀ y ∈ insT t ts, y = t ∨ y ∈ ts := by
  induction ts with
  | nil => intro y hy; simpa [insT] using hy
  | cons z r ih =>
    intro y hy
    simp only [insT] at hy
    split at hy
    · rcases List.mem_cons.1 hy with rfl | hy
      · exact .inr (by simp)
      · rcases ih y hy with h | h
        · exact .inl h
        · exact .inr (by simp [h])
    · rcases List.mem_cons.1 hy with rfl | hy
      · exact .inl rfl
      · exact .inr hy
def PutDone (w w' : World) (base g : Nat) (va vs : Value) (ts : List Tk) (sizes : List Int) (t : Tk) : Prop :=
  ∃ va' t', t'.key = t.key ∧ QRep w' base g va' vs (insT t' ts) sizes ∧ Kept w w' (fun k => k = g ∨ va.ownBlock = some k) ∧ (∀ k, va'.ownBlock = some k → va.ownBlock = some k ∨ w.heap.size ≤ k) ∧ (∀ k, t'.pv.ownBlock = some k → w.heap.size ≤ k)
def PutTail (w10 : World) (w : World) (base g : Nat) (va vs : Value) (ts : List Tk) (sizes : List Int) (t : Tk) (e : Ending) : Prop :=
  ∃ gg cap, e = .returned (.slice (some ⟨gg, 0, none⟩) (ts.length + 1) cap) ∧ w10.cell? ⟨g, 0, none⟩ = some va ∧ w10.frozen? ⟨g, 0, none⟩ = false ∧ PutDone w (w10.setCell ⟨g, 0, none⟩ (.slice (some ⟨gg, 0, none⟩) (ts.length + 1) cap)) base g va vs ts sizes t
theorem put_tail (w w9 : World) (base g : Nat) (va vs : Value) (ts : List Tk) (sizes : List Int) (t : Tk) (A : Option Addr) (c : Nat) (k : Nat) (hq : QRep w base g va vs ts sizes) (hb : Below w.heap.size w w9) (hown : OwnN w9 w.heap.size 33 .u32 (.slice A t.pl.length c) t.pl) (hf : t.pl.length ≤ 8)
    (hk : k ≤ ts.length) (hk1 : ∀ t', t'.key = t.key → insT t' ts = ts.take k ++ t' :: ts.drop k) (hmany : ts.length ≤ 1000) (hbase : base ≤ w.heap.size) :
    Calls Try.prog 55 #[va, .int .i64 k, .slice (some ⟨w9.heap.size, 0, none⟩) 1 1] (w9.alloc (.cells #[.int .u32 t.id, .int .i64 t.mode, .slice A t.pl.length c, .int .i64 t.rating, .int .i64 t.since] 39)) (fun e w10 => PutTail w10 w base g va vs ts sizes t e) := by
  obtain ⟨t', ht'⟩ : ∃ t' : Tk, t' = ⟨t.id, t.mode, .slice A t.pl.length c, t.pl, t.rating, t.since⟩ := ⟨_, rfl⟩
  have hcs : t'.cs = [.int .u32 t.id, .int .i64 t.mode, .slice A t.pl.length c, .int .i64 t.rating, .int .i64 t.since] := by rw [ht']; rfl
  obtain ⟨W, hW⟩ : ∃ W, W = w9.alloc (.cells #[.int .u32 t.id, .int .i64 t.mode, .slice A t.pl.length c, .int .i64 t.rating, .int .i64 t.since] 39) := ⟨_, rfl⟩
  have hbW : Below w9.heap.size w9 W := by rw [hW]; exact (Below.refl _ _).alloc (Nat.le_refl _) _
  have hbw : Below w.heap.size w W := hb.trans (hbW.mono hb.size)
  have hnb : Blk W w9.heap.size t'.cs.toArray 39 := by rw [hcs, hW]; exact heap_alloc_new w9 _
  rw [← hW]
  have hQ := hq.below hbw
  have hO : OwnN W w.heap.size 33 .u32 t'.pv t'.pl := by rw [ht']; exact own_below hown hbW
  have hkey : t'.key = t.key := by rw [ht']; rfl
  have hne : va.ownBlock ≠ some w9.heap.size := fun e => by
    obtain ⟨cur, h, _⟩ := own_blk (hq.below hb).all e
    exact absurd h.lt (by omega)
  refine (tk_insert W base ts.length k va (ts.flatMap Tk.cs) hQ.all hk (by omega) (Nat.le_trans hbase hbw.size) w9.heap.size t'.cs hnb rfl (cs_one t' (shows_oneCell hO.shows)) (flat_one hQ.pls) hne).mono ?_
  rintro e w10 ⟨v', rfl, hrow, hkept, hfresh⟩
  have hgne : ∀ j, va.ownBlock = some j → j ≠ g := fun j e => own_ne hQ.all hQ.blk (by decide) j e
  have hbk := hQ.blk.kept hkept (fun e => hgne g e rfl)
  have hins := hk1 t' hkey
  have hlist : (ts.flatMap Tk.cs).take (k * 5) ++ t'.cs ++ (ts.flatMap Tk.cs).drop (k * 5) = (insT t' ts).flatMap Tk.cs := by
    rw [hins, (flat_take ts k hk).1, (flat_take ts k hk).2, List.flatMap_append, List.flatMap_cons, List.append_assoc]
  rw [hlist] at hrow
  obtain ⟨gg, cap, rfl⟩ : ∃ gg cap, v' = .slice (some ⟨gg, 0, none⟩) (ts.length + 1) cap := by
    rcases hrow.2 with ⟨_, h0⟩ | ⟨gg, cap, cur, rfl, _⟩
    · omega
    · exact ⟨gg, cap, rfl⟩
  have hS : ∀ (b0 : Nat) (e : Nat) (v : Value) (xs : List Int), OwnN W b0 e .u32 v xs ∨ OwnN W b0 e .i64 v xs → e ≠ 39 → e ≠ 106 → (∀ j, v.ownBlock = some j → va.ownBlock ≠ some j) ∧ (∀ j, v.ownBlock = some j → j ≠ g) := by
    rintro b0 e v xs (h | h) h1 h2
    · refine ⟨fun j hj e2 => ?_, fun j hj => own_ne h hQ.blk h2 j hj⟩
      obtain ⟨c1, b1, _⟩ := own_blk h hj
      obtain ⟨c2, b2, _⟩ := own_blk hQ.all e2
      exact absurd rfl (b1.ne b2 h1)
    · refine ⟨fun j hj e2 => ?_, fun j hj => own_ne h hQ.blk h2 j hj⟩
      obtain ⟨c1, b1, _⟩ := own_blk h hj
      obtain ⟨c2, b2, _⟩ := own_blk hQ.all e2
      exact absurd rfl (b1.ne b2 h1)
  refine ⟨gg, cap, rfl, by have := hbk.cell 0; simpa using this, hbk.frozen 0, .slice (some ⟨gg, 0, none⟩) (ts.length + 1) cap, t', hkey, ⟨?_, hQ.low, ?_, ?_, ?_, ?_⟩, ?_, ?_, ?_⟩
  · exact blk_setCell (cur := [va, vs]) hbk 0 (.slice (some ⟨gg, 0, none⟩) (ts.length + 1) cap)
  · rw [insT_len]
    exact own_setCell hrow (fun j e => own_ne hrow hbk (by decide) j e) _
  · have h1 := hS _ _ _ _ (.inr hQ.szs) (by decide) (by decide)
    exact own_setCell (own_kept hQ.szs hkept h1.1) (fun j e => h1.2 j e) _
  · intro y hy
    rcases insT_mem t' ts y hy with rfl | hy
    · have h1 := hS _ _ _ _ (.inl hO) (by decide) (by decide)
      exact own_mono (own_setCell (own_kept hO hkept h1.1) (fun j e => h1.2 j e) _) hbase
    · have h1 := hS _ _ _ _ (.inl (hQ.pls y hy)) (by decide) (by decide)
      exact own_setCell (own_kept (hQ.pls y hy) hkept h1.1) (fun j e => h1.2 j e) _
  · intro y hy
    rcases insT_mem t' ts y hy with rfl | hy
    · rw [ht']; exact hf
    · exact hq.few y hy
  · exact ((kept_of_below hbw (fun j => j = g ∨ va.ownBlock = some j)).trans hkept (fun j _ h => .inr h)).setCell (fun _ => .inl rfl) _
  · intro j hj
    rcases hfresh j hj with h | h
    · exact .inl h
    · exact .inr (Nat.le_trans hbw.size h)
  · intro j hj
    obtain ⟨_, _, h⟩ := own_blk hO hj
    exact h
theorem insT_key {ts : List Tk} {t : Tk} {k : Nat} (hk : k ≤ ts.length) (h1 : ∀ i, i < k → ordT (ts.getD i Tk.zero) t < 0) (h2 : ∀ i, k ≤ i → i < ts.length → 0 ≤ ordT (ts.getD i Tk.zero) t) (t' : Tk) (hkey : t'.key = t.key) : insT t' ts = ts.take k ++ t' :: ts.drop k := by
  simp only [Tk.key, Prod.mk.injEq] at hkey
  have e : ∀ y, ordT y t' = ordT y t := fun y => by unfold ordT; rw [hkey.1, hkey.2.2.2.2]
  exact insT_at t' ts k hk (fun i hi => by rw [e]; exact h1 i hi) (fun i hi hl => by rw [e]; exact h2 i hi hl)
end Go.Proofs.Ytlkpmlcmgggifaa
