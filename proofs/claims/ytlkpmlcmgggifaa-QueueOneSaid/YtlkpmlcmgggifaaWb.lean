/- Rows of cells that are written in place: copy, clear, append with room; what a slice's insertion and deletion leave in a row. -/
import Derived.Test.YtlkpmlcmgggifaaWa
import Derived.Laws.IdiomCopy
import Derived.Laws.CopyOwn
import Derived.Lib.AppendZerosOnto
import Derived.Lib.Overlaps
import Derived.Deep.RegionLaw
import Derived.Shelf.Spec.SlicesInsert
set_option linter.unusedVariables false
set_option linter.unusedSimpArgs false
namespace Go.Proofs.Ytlkpmlcmgggifaa
open Go.RowKit

theorem blk_setCell {w : World} {g : Nat} {cur : List Value} {t : TypeId} (h : Blk w g cur.toArray t) (o : Nat) (v : Value) : Blk (w.setCell ⟨g, o, none⟩ v) g (cur.set o v).toArray t := by
  have := heap_setCell_same w g o cur.toArray t v h
  simpa [Blk] using this
theorem splice_cons (cur : List Value) (o : Nat) (v : Value) (r : List Value) (h : o + (r.length + 1) ≤ cur.length) : splice (cur.set o v) (o + 1) r = splice cur o (v :: r) := by
  have h1 := list_seg_step cur o v r h
  simpa [splice] using h1
theorem blk_setCells {g : Nat} {t : TypeId} : ∀ (vs : List Value) (o : Nat) (cur : List Value) (w : World), Blk w g cur.toArray t → o + vs.length ≤ cur.length → Blk (w.setCells g o vs) g (splice cur o vs).toArray t
  | [], o, cur, w, h, _ => by
    have : splice cur o [] = cur := by simp [splice]
    rw [this]; exact h
  | v :: r, o, cur, w, h, hl => by
    have hl' : o + (r.length + 1) ≤ cur.length := by simpa using hl
    rw [World.setCells, ← splice_cons cur o v r hl']
    exact blk_setCells r (o + 1) (cur.set o v) _ (blk_setCell h o v) (by simp; omega)
theorem kept_setCells (g : Nat) : ∀ (vs : List Value) (o : Nat) (w w0 : World) (S : Nat → Prop), Kept w0 w S → (g < w0.heap.size → S g) → Kept w0 (w.setCells g o vs) S
  | [], _, _, _, _, h, _ => h
  | v :: r, o, w, w0, S, h, hS => kept_setCells g r (o + 1) _ w0 S (h.setCell (a := ⟨g, o, none⟩) hS v) hS
/-- copy, at elements of sz cells -/
theorem run_copyN {P : Program} (w : World) (dT sT ty elem : TypeId) (sz : Nat) (b o dLen dCap : Nat) (a : Addr) (sLen sCap : Nat) (cs : List Value) (hu : P.underlying dT = some (.slice elem)) (hs : (P.info? elem).map (·.size) = some sz)
    (hn : cs.length = Nat.min sLen dLen * sz) (hsrc : ∀ j v, cs[j]? = some v → w.cell? (a.add j) = some v) (hcell : ∀ j, j < cs.length → (w.cell? ⟨b, o + j, none⟩).isSome = true) (hfz : ∀ j, j < cs.length → w.frozen? ⟨b, o + j, none⟩ = false) (h1 : ∀ v ∈ cs, v.oneCell' = true) :
    (Builtin.copy_ #[dT, sT] ty #[.slice (some ⟨b, o, none⟩) dLen dCap, .slice (some a) sLen sCap]).run P w = .ok (goInt (Nat.min sLen dLen)) (w.setCells b o cs) := by
  have hf := run_firstCells_some (P := P) w sz (Nat.min sLen dLen) a sLen sCap cs hn hsrc
  have hst := run_storeCells_cells (P := P) b o cs 0 w (by simpa using hcell) (by simpa using hfz) h1
  cases hq : P.info? elem with
  | none => simp [hq] at hs
  | some i =>
    have hi : i.size = sz := by simpa [hq] using hs
    simp only [Nat.min_def] at hf ⊢
    have hst' : Sem.run P (storeCells ⟨b, o, none⟩ cs) w = Result.ok () (w.setCells b o cs) := by simpa using hst
    simp [Builtin.copy_, run_underlying hu, Builtin.lenOf, sizeOf, typeInfo, hq, hi, Nat.min_def, hf, hst']
theorem shift_list {α : Type} (L news : List α) (p q s : Nat) (hpq : p ≤ q) (hL : q + s ≤ L.length) (hn : news.length = s) :
    (splice (splice L (p + s) ((L.drop p).take (q - p))) p news).take (q + s) = (L.take q).take p ++ news ++ (L.take q).drop p := by
  have hc : ((L.drop p).take (q - p)).length = q - p := by rw [List.length_take, List.length_drop]; omega
  have e1 : splice L (p + s) ((L.drop p).take (q - p)) = L.take (p + s) ++ ((L.drop p).take (q - p) ++ L.drop (q + s)) := by
    unfold splice; rw [hc, show p + s + (q - p) = q + s by omega]
  have hl1 : (L.take (p + s)).length = p + s := by rw [List.length_take]; omega
  have e2 : splice (L.take (p + s) ++ ((L.drop p).take (q - p) ++ L.drop (q + s))) p news = L.take p ++ (news ++ ((L.drop p).take (q - p) ++ L.drop (q + s))) := by
    unfold splice
    rw [hn, List.take_append_of_le_length (by omega), List.take_take, Nat.min_eq_left (by omega)]
    congr 2
    exact List.drop_left' hl1
  rw [e1, e2, List.take_take, Nat.min_eq_left hpq, ← List.append_assoc, ← List.append_assoc]
  rw [List.take_append_of_le_length (by simp only [List.length_append, List.length_take, hn, List.length_drop]; omega)]
  rw [List.take_of_length_le (by simp only [List.length_append, List.length_take, hn, List.length_drop]; omega)]
  rw [List.drop_take]
theorem grow_list {α : Type} (R xs news : List α) (p q s : Nat) (hpq : p ≤ q) (hR : q + s ≤ R.length) (hRp : R.take p = xs.take p) (hx : xs.length = q) (hn : news.length = s) :
    (splice (splice R p news) (p + s) (xs.drop p)).take (q + s) = xs.take p ++ news ++ xs.drop p := by
  have hd : (xs.drop p).length = q - p := by rw [List.length_drop, hx]
  have hRl : (R.take p).length = p := by rw [List.length_take]; omega
  have e1 : splice R p news = (R.take p ++ news) ++ R.drop (p + s) := by unfold splice; rw [hn, List.append_assoc]
  have hl1 : (R.take p ++ news).length = p + s := by rw [List.length_append, hRl, hn]
  have e2 : splice ((R.take p ++ news) ++ R.drop (p + s)) (p + s) (xs.drop p) = (R.take p ++ news) ++ (xs.drop p ++ (((R.take p ++ news) ++ R.drop (p + s)).drop (p + s + (xs.drop p).length))) := by
    unfold splice
    rw [List.take_left' hl1]
  rw [e1, e2, ← List.append_assoc, List.take_left' (by rw [List.length_append, hl1, hd]; omega), hRp]
theorem blk_shape {w : World} {g : Nat} {cs : Array Value} {t : TypeId} (h : Blk w g cs t) : w.shape? g = some (t, cs.size) := by
  unfold World.shape?; rw [show w.heap[g]? = _ from h]
theorem blk_isSome {w : World} {g : Nat} {cur : List Value} {t : TypeId} (h : Blk w g cur.toArray t) {j : Nat} (hj : j < cur.length) : (w.cell? ⟨g, j, none⟩).isSome = true := by
  rw [h.cell j]; simp [hj]
theorem blk_drew {w : World} {g : Nat} {cs : Array Value} {t : TypeId} (h : Blk w g cs t) : Blk w.drew g cs t := h
/-- An owned row that is not nil, laid open. -/
theorem own_open {w : World} {base : Nat} {e : TypeId} {sz n g c : Nat} {xs : List Value} (h : w.ownsRow base e sz (.slice (some ⟨g, 0, none⟩) n c) n xs) :
    ∃ L : List Value, Blk w g L.toArray e ∧ base ≤ g ∧ n ≤ c ∧ c ≤ maxLen ∧ L.length = c * sz ∧ L.take (n * sz) = xs := by
  rcases h.2 with ⟨h2, _⟩ | ⟨g', cap, cur, hv, hb, hgg, hnc, hcm, hcs, ht⟩
  · cases h2
  · simp only [Value.slice.injEq, Option.some.injEq, Addr.mk.injEq] at hv
    obtain ⟨⟨rfl, _⟩, _, rfl⟩ := hv
    exact ⟨cur.toList, by simpa [Blk] using hgg, hb, hnc, hcm, by simpa using hcs, ht⟩
theorem own_shut {w : World} {base : Nat} {e : TypeId} {sz n g c : Nat} {xs L : List Value} (h : Blk w g L.toArray e) (hb : base ≤ g) (hnc : n ≤ c) (hcm : c ≤ maxLen) (hl : L.length = c * sz) (ht : L.take (n * sz) = xs) :
    w.ownsRow base e sz (.slice (some ⟨g, 0, none⟩) n c) n xs :=
  ⟨by rw [← ht, List.length_take, hl]; exact Nat.min_eq_left (Nat.mul_le_mul_right _ hnc), .inr ⟨g, c, L.toArray, rfl, hb, h, hnc, hcm, by simpa using hl, by simpa using ht⟩⟩
/-- append, as one step of a region that draws, where its run is known. -/
theorem step_append_eq {P : Program} {ops : Array Oper} {o : Oper} {a : Act} {w : World} {K : Act → World → Prop} {Q : Exit → Act → World → Prop} {E : Prop}
    (hg : o.guard = none) (s x : Operand) (sT xT : TypeId) (hop : o.op = Op.call { callee := Callee.builtin Builtin.append, args := #[s, x], argTypes := #[sT, xT] })
    (v u : Value) (hs : a.eval s = v) (hx : a.eval x = u) {v' : Value} {w' : World} (hr : (Builtin.append_ #[sT, xT] o.type #[v, u]).run P w = .ok v' w') (hK : K (a.put o.dst v') w') :
    if Region.wanted o (yielded ops a.tmps) = true then Oper.wp P o a w K Q else E := by
  rw [if_pos (by simp [Region.wanted, hg])]
  unfold Oper.wp
  simp [execOp, hop, resolve, invoke, builtin, hs, hx, hr, Result.andThen]
  exact hK
/-- clear of a piece of a row -/
theorem run_clearN {P : Program} (w : World) (t e ty : TypeId) (z : Value) (sz : Nat) (ht : P.underlying t = some (.slice e)) (hv : ∀ w, (zeroValue e).run P w = .ok z w) (b o n c : Nat) (hn : 0 < n) (zs : List Value) (hzs : zs = (Builtin.zeroCells z.cells n).toList) (h1 : ∀ v ∈ zs, v.oneCell' = true)
    (hc : ∀ j, j < zs.length → (w.cell? ⟨b, o + j, none⟩).isSome = true) (hf : ∀ j, j < zs.length → w.frozen? ⟨b, o + j, none⟩ = false) :
    (Builtin.clear_ #[t] ty #[.slice (some ⟨b, o, none⟩) n c]).run P w = .ok (.tuple #[]) (w.setCells b o zs) := by
  have hst := run_storeCells_cells (P := P) b o zs 0 w (by simpa using hc) (by simpa using hf) h1
  simp only [Nat.add_zero] at hst
  obtain ⟨m, rfl⟩ : ∃ m, n = m + 1 := ⟨n - 1, by omega⟩
  simp [Builtin.clear_, run_underlying ht, hv, ← hzs, hst]
/-- What a deletion of one element comes to. -/
def DelRes (e : TypeId) (sz : Nat) (w w' : World) (base : Nat) (va : Value) (n : Nat) (xs' : List Value) (r : Ending) : Prop :=
  ∃ v', r = .returned v' ∧ w'.ownsRow base e sz v' (n - 1) xs' ∧ Kept w w' (fun k => va.ownBlock = some k) ∧ v'.ownBlock = va.ownBlock
theorem del_list {α : Type} (L zs : List α) (p q s : Nat) (hpq : p + s ≤ q) (hL : q ≤ L.length) (hz : zs.length = s) :
    (splice (splice L p ((L.take q).drop (p + s))) (q - s) zs).take (q - s) = (L.take q).take p ++ (L.take q).drop (p + s) := by
  have hd : ((L.take q).drop (p + s)).length = q - (p + s) := by rw [List.length_drop, List.length_take]; omega
  have e1 : splice L p ((L.take q).drop (p + s)) = (L.take p ++ (L.take q).drop (p + s)) ++ L.drop (q - s) := by
    unfold splice; rw [hd, show p + (q - (p + s)) = q - s by omega, List.append_assoc]
  have hl1 : (L.take p ++ (L.take q).drop (p + s)).length = q - s := by rw [List.length_append, hd, List.length_take]; omega
  rw [e1]
  unfold splice
  rw [List.take_left' hl1, List.take_left' hl1, List.take_take, Nat.min_eq_left (by omega)]
theorem ownBlock_cap (A : Option Addr) (n c m d : Nat) : (Value.slice A n c).ownBlock = (Value.slice A m d).ownBlock := by cases A <;> rfl
/-- What an insertion of one element comes to. -/
def InsRes (e : TypeId) (sz : Nat) (w w' : World) (base : Nat) (va : Value) (n : Nat) (xs' : List Value) (r : Ending) : Prop :=
  ∃ v', r = .returned v' ∧ w'.ownsRow base e sz v' (n + 1) xs' ∧ Kept w w' (fun k => va.ownBlock = some k) ∧ (∀ k, v'.ownBlock = some k → va.ownBlock = some k ∨ w.heap.size ≤ k)
end Go.Proofs.Ytlkpmlcmgggifaa
