/- Rows of cells that are written in place: copy, clear, append with room; what a slice's insertion and deletion leave in a row. -/
import Derived.Test.YtlkpmlcmgggifaaMa
import Derived.Laws.IdiomCopy
import Derived.Laws.CopyOwn
import Derived.Lib.AppendZerosOnto
import Derived.Lib.Overlaps
import Derived.Deep.RegionLaw
import Derived.Shelf.Spec.SlicesInsert
import Derived.BigRegion
import Derived.Maps.AppendAt
import Derived.Deep.AppendSrc
set_option linter.unusedVariables false
set_option linter.unusedSimpArgs false
namespace Go.Proofs.Ytlkpmlcmgggifaa
open Go.RowKit

theorem blk_setCell {w : World} {g : Nat} {cur : List Value} {t : TypeId} (h : Blk w g cur.toArray t) (o : Nat) (v : Value) : Blk (w.setCell ⟨g, o, none⟩ v) g (cur.set o v).toArray t := by
  have := heap_setCell_same w g o cur.toArray t v h
  simpa [Blk] using this
theorem splice_cons (cur : List Value) (o : Nat) (v : Value) (r : List Value) (h : o + (r.length + 1) ≤ cur.length) : splice (cur.set o v) (o + 1) r = splice cur o (v :: r) := by
  have h1 := list_seg_step cur o v r h
  simpa [splice] using h1
theorem blk_setCells {g : Nat} {t : TypeId} : ∀ (vs : List Value) (o : Nat) (cur : List Value) (w : World), Blk w g cur.toArray t → o + vs.length ≤ cur.length → Blk (w.setCells g o vs) g (splice cur o vs).toArray t
  | [], o, cur, w, h, _ => by
    have : splice cur o [] = cur := by simp [splice]
    rw [this]; exact h
  | v :: r, o, cur, w, h, hl => by
    have hl' : o + (r.length + 1) ≤ cur.length := by simpa using hl
    rw [World.setCells, ← splice_cons cur o v r hl']
    exact blk_setCells r (o + 1) (cur.set o v) _ (blk_setCell h o v) (by simp; omega)
theorem kept_setCells (g : Nat) : ∀ (vs : List Value) (o : Nat) (w w0 : World) (S : Nat → Prop), Kept w0 w S → (g < w0.heap.size → S g) → Kept w0 (w.setCells g o vs) S
  | [], _, _, _, _, h, _ => h
  | v :: r, o, w, w0, S, h, hS => kept_setCells g r (o + 1) _ w0 S (h.setCell (a := ⟨g, o, none⟩) hS v) hS
/-- copy, at elements of sz cells -/
theorem run_copyN {P : Program} (w : World) (dT sT ty elem : TypeId) (sz : Nat) (b o dLen dCap : Nat) (a : Addr) (sLen sCap : Nat) (cs : List Value) (hu : P.underlying dT = some (.slice elem)) (hs : (P.info? elem).map (·.size) = some sz)
    (hn : cs.length = Nat.min sLen dLen * sz) (hsrc : ∀ j v, cs[j]? = some v → w.cell? (a.add j) = some v) (hcell : ∀ j, j < cs.length → (w.cell? ⟨b, o + j, none⟩).isSome = true) (hfz : ∀ j, j < cs.length → w.frozen? ⟨b, o + j, none⟩ = false) (h1 : ∀ v ∈ cs, v.oneCell' = true) :
    (Builtin.copy_ #[dT, sT] ty #[.slice (some ⟨b, o, none⟩) dLen dCap, .slice (some a) sLen sCap]).run P w = .ok (goInt (Nat.min sLen dLen)) (w.setCells b o cs) := by
  have hf := run_firstCells_some (P := P) w sz (Nat.min sLen dLen) a sLen sCap cs hn hsrc
  have hst := run_storeCells_cells (P := P) b o cs 0 w (by simpa using hcell) (by simpa using hfz) h1
  cases hq : P.info? elem with
  | none => simp [hq] at hs
  | some i =>
    have hi : i.size = sz := by simpa [hq] using hs
    simp only [Nat.min_def] at hf ⊢
    have hst' : Sem.run P (storeCells ⟨b, o, none⟩ cs) w = Result.ok () (w.setCells b o cs) := by simpa using hst
    simp [Builtin.copy_, run_underlying hu, Builtin.lenOf, sizeOf, typeInfo, hq, hi, Nat.min_def, hf, hst']
theorem shift_list {α : Type} (L news : List α) (p q s : Nat) (hpq : p ≤ q) (hL : q + s ≤ L.length) (hn : news.length = s) :
    (splice (splice L (p + s) ((L.drop p).take (q - p))) p news).take (q + s) = (L.take q).take p ++ news ++ (L.take q).drop p := by
  have hc : ((L.drop p).take (q - p)).length = q - p := by rw [List.length_take, List.length_drop]; omega
  have e1 : splice L (p + s) ((L.drop p).take (q - p)) = L.take (p + s) ++ ((L.drop p).take (q - p) ++ L.drop (q + s)) := by
    unfold splice; rw [hc, show p + s + (q - p) = q + s by omega]
  have hl1 : (L.take (p + s)).length = p + s := by rw [List.length_take]; omega
  have e2 : splice (L.take (p + s) ++ ((L.drop p).take (q - p) ++ L.drop (q + s))) p news = L.take p ++ (news ++ ((L.drop p).take (q - p) ++ L.drop (q + s))) := by
    unfold splice
    rw [hn, List.take_append_of_le_length (by omega), List.take_take, Nat.min_eq_left (by omega)]
    congr 2
    exact List.drop_left' hl1
  rw [e1, e2, List.take_take, Nat.min_eq_left hpq, ← List.append_assoc, ← List.append_assoc]
  rw [List.take_append_of_le_length (by simp only [List.length_append, List.length_take, hn, List.length_drop]; omega)]
  rw [List.take_of_length_le (by simp only [List.length_append, List.length_take, hn, List.length_drop]; omega)]
  rw [List.drop_take]
theorem grow_list {α : Type} (R xs news : List α) (p q s : Nat) (hpq : p ≤ q) (hR : q + s ≤ R.length) (hRp : R.take p = xs.take p) (hx : xs.length = q) (hn : news.length = s) :
    (splice (splice R p news) (p + s) (xs.drop p)).take (q + s) = xs.take p ++ news ++ xs.drop p := by
  have hd : (xs.drop p).length = q - p := by rw [List.length_drop, hx]
  have hRl : (R.take p).length = p := by rw [List.length_take]; omega
  have e1 : splice R p news = (R.take p ++ news) ++ R.drop (p + s) := by unfold splice; rw [hn, List.append_assoc]
  have hl1 : (R.take p ++ news).length = p + s := by rw [List.length_append, hRl, hn]
  have e2 : splice ((R.take p ++ news) ++ R.drop (p + s)) (p + s) (xs.drop p) = (R.take p ++ news) ++ (xs.drop p ++ (((R.take p ++ news) ++ R.drop (p + s)).drop (p + s + (xs.drop p).length))) := by
    unfold splice
    rw [List.take_left' hl1]
  rw [e1, e2, ← List.append_assoc, List.take_left' (by rw [List.length_append, hl1, hd]; omega), hRp]
theorem blk_shape {w : World} {g : Nat} {cs : Array Value} {t : TypeId} (h : Blk w g cs t) : w.shape? g = some (t, cs.size) := by
  unfold World.shape?; rw [show w.heap[g]? = _ from h]
theorem blk_isSome {w : World} {g : Nat} {cur : List Value} {t : TypeId} (h : Blk w g cur.toArray t) {j : Nat} (hj : j < cur.length) : (w.cell? ⟨g, j, none⟩).isSome = true := by
  rw [h.cell j]; simp [hj]
theorem blk_drew {w : World} {g : Nat} {cs : Array Value} {t : TypeId} (h : Blk w g cs t) : Blk w.drew g cs t := h
/-- An owned row that is not nil, laid open. -/
theorem own_open {w : World} {base : Nat} {e : TypeId} {sz n g c : Nat} {xs : List Value} (h : w.ownsRow base e sz (.slice (some ⟨g, 0, none⟩) n c) n xs) :
    ∃ L : List Value, Blk w g L.toArray e ∧ base ≤ g ∧ n ≤ c ∧ c ≤ maxLen ∧ L.length = c * sz ∧ L.take (n * sz) = xs := by
  rcases h.2 with ⟨h2, _⟩ | ⟨g', cap, cur, hv, hb, hgg, hnc, hcm, hcs, ht⟩
  · cases h2
  · simp only [Value.slice.injEq, Option.some.injEq, Addr.mk.injEq] at hv
    obtain ⟨⟨rfl, _⟩, _, rfl⟩ := hv
    exact ⟨cur.toList, by simpa [Blk] using hgg, hb, hnc, hcm, by simpa using hcs, ht⟩
theorem own_shut {w : World} {base : Nat} {e : TypeId} {sz n g c : Nat} {xs L : List Value} (h : Blk w g L.toArray e) (hb : base ≤ g) (hnc : n ≤ c) (hcm : c ≤ maxLen) (hl : L.length = c * sz) (ht : L.take (n * sz) = xs) :
    w.ownsRow base e sz (.slice (some ⟨g, 0, none⟩) n c) n xs :=
  ⟨by rw [← ht, List.length_take, hl]; exact Nat.min_eq_left (Nat.mul_le_mul_right _ hnc), .inr ⟨g, c, L.toArray, rfl, hb, h, hnc, hcm, by simpa using hl, by simpa using ht⟩⟩
/-- append, as one step of a region that draws, where its run is known. -/
theorem step_append_eq {P : Program} {ops : Array Oper} {o : Oper} {a : Act} {w : World} {K : Act → World → Prop} {Q : Exit → Act → World → Prop} {E : Prop}
    (hg : o.guard = none) (s x : Operand) (sT xT : TypeId) (hop : o.op = Op.call { callee := Callee.builtin Builtin.append, args := #[s, x], argTypes := #[sT, xT] })
    (v u : Value) (hs : a.eval s = v) (hx : a.eval x = u) {v' : Value} {w' : World} (hr : (Builtin.append_ #[sT, xT] o.type #[v, u]).run P w = .ok v' w') (hK : K (a.put o.dst v') w') :
    if Region.wanted o (yielded ops a.tmps) = true then Oper.wp P o a w K Q else E := by
  rw [if_pos (by simp [Region.wanted, hg])]
  unfold Oper.wp
  simp [execOp, hop, resolve, invoke, builtin, hs, hx, hr, Result.andThen]
  exact hK
/-- clear of a piece of a row -/
theorem run_clearN {P : Program} (w : World) (t e ty : TypeId) (z : Value) (sz : Nat) (ht : P.underlying t = some (.slice e)) (hv : ∀ w, (zeroValue e).run P w = .ok z w) (b o n c : Nat) (hn : 0 < n) (zs : List Value) (hzs : zs = (Builtin.zeroCells z.cells n).toList) (h1 : ∀ v ∈ zs, v.oneCell' = true)
    (hc : ∀ j, j < zs.length → (w.cell? ⟨b, o + j, none⟩).isSome = true) (hf : ∀ j, j < zs.length → w.frozen? ⟨b, o + j, none⟩ = false) :
    (Builtin.clear_ #[t] ty #[.slice (some ⟨b, o, none⟩) n c]).run P w = .ok (.tuple #[]) (w.setCells b o zs) := by
  have hst := run_storeCells_cells (P := P) b o zs 0 w (by simpa using hc) (by simpa using hf) h1
  simp only [Nat.add_zero] at hst
  obtain ⟨m, rfl⟩ : ∃ m, n = m + 1 := ⟨n - 1, by omega⟩
  simp [Builtin.clear_, run_underlying ht, hv, ← hzs, hst]
/-- What a deletion of one element comes to. -/
def DelRes (e : TypeId) (sz : Nat) (w w' : World) (base : Nat) (va : Value) (n : Nat) (xs' : List Value) (r : Ending) : Prop :=
  ∃ v', r = .returned v' ∧ w'.ownsRow base e sz v' (n - 1) xs' ∧ Kept w w' (fun k => va.ownBlock = some k) ∧ v'.ownBlock = va.ownBlock
theorem del_list {α : Type} (L zs : List α) (p q s : Nat) (hpq : p + s ≤ q) (hL : q ≤ L.length) (hz : zs.length = s) :
    (splice (splice L p ((L.take q).drop (p + s))) (q - s) zs).take (q - s) = (L.take q).take p ++ (L.take q).drop (p + s) := by
  have hd : ((L.take q).drop (p + s)).length = q - (p + s) := by rw [List.length_drop, List.length_take]; omega
  have e1 : splice L p ((L.take q).drop (p + s)) = (L.take p ++ (L.take q).drop (p + s)) ++ L.drop (q - s) := by
    unfold splice; rw [hd, show p + (q - (p + s)) = q - s by omega, List.append_assoc]
  have hl1 : (L.take p ++ (L.take q).drop (p + s)).length = q - s := by rw [List.length_append, hd, List.length_take]; omega
  rw [e1]
  unfold splice
  rw [List.take_left' hl1, List.take_left' hl1, List.take_take, Nat.min_eq_left (by omega)]
theorem ownBlock_cap (A : Option Addr) (n c m d : Nat) : (Value.slice A n c).ownBlock = (Value.slice A m d).ownBlock := by cases A <;> rfl
/-- What an insertion of one element comes to. -/
def InsRes (e : TypeId) (sz : Nat) (w w' : World) (base : Nat) (va : Value) (n : Nat) (xs' : List Value) (r : Ending) : Prop :=
  ∃ v', r = .returned v' ∧ w'.ownsRow base e sz v' (n + 1) xs' ∧ Kept w w' (fun k => va.ownBlock = some k) ∧ (∀ k, v'.ownBlock = some k → va.ownBlock = some k ∨ w.heap.size ≤ k)
end Go.Proofs.Ytlkpmlcmgggifaa
namespace Go.Proofs.Ytlkpmlcmgggifaa
open Go.RowKit

theorem tk_info : (Try.prog.info? 39).map (fun i => (i.zero, i.size, i.bytes)) = some (some (.agg #[.int .u32 0, .int .i64 0, .slice none 0 0, .int .i64 0, .int .i64 0]), 5, 56) := by kernel_rfl
theorem tk_zone : ∀ v ∈ (Builtin.zeroCells (.agg #[.int .u32 0, .int .i64 0, .slice none 0 0, .int .i64 0, .int .i64 0] : Value).cells 1).toList, v.oneCell' = true := by decide +kernel
theorem tk_size : (Try.prog.info? 39).map (·.size) = some 5 := by kernel_rfl
set_option maxHeartbeats 1600000 in
set_option maxRecDepth 100000 in
/-- At the end. -/
theorem tk_insert_end (w : World) (base n c : Nat) (va : Value) (xs : List Value) (hown : w.ownsRow base 39 5 va n xs) (nb : Nat) (news : List Value) (hnb : Blk w nb news.toArray 39) (hnl : news.length = 5) (h1 : ∀ v ∈ news, v.oneCell' = true)
    (hmany : n ≤ 100000) (hbase : base ≤ w.heap.size) :
    Calls Try.prog 55 #[va, .int .i64 n, .slice (some ⟨nb, 0, none⟩) 1 1] w fun e w' => InsRes 39 5 w w' base va n (xs ++ news) e := by
  obtain ⟨i0, hi, hz0, hz1, hz2⟩ := info_parts tk_info
  have HI := Lib.hid hi
  have HZ0 := Lib.hid hz0
  have HZ1 := Lib.hid hz1
  have HZ2 := Lib.hid hz2
  have HO := Lib.hid hown
  have HNB := Lib.hid hnb
  have HNL := Lib.hid hnl
  have H1 := Lib.hid h1
  have HB := Lib.hid hbase
  clear hi hz0 hz1 hz2 hown hnb hnl h1 hbase
  obtain ⟨A, C, rfl, hAC⟩ : ∃ A C, va = .slice A n C ∧ (n ≤ C ∧ C ≤ maxLen) := by
    rcases HO.out.2 with ⟨rfl, rfl⟩ | ⟨g, cap, cur, rfl, _, _, h3, h4, _⟩
    · exact ⟨none, 0, rfl, Nat.le_refl _, Nat.zero_le _⟩
    · exact ⟨_, cap, rfl, h3, h4⟩
  unfold maxLen at hAC
  obtain ⟨hAC, hAM⟩ := hAC
  go_enter Try.func55, Try.ntmps55
  obtain ⟨H, hH⟩ : ∃ H, H = w.heap.size := ⟨_, rfl⟩
  have HH := Lib.hid hH
  clear hH
  go_wp2_with (at_builtin; refine wpList_append_lies _ rfl (.tmp 23) (.tmp 24) 44 rfl base 39 i0 _ 5 56 Try.underlying44 HI.out HZ0.out HZ1.out HZ2.out rfl (by decide) (.slice A n C) n xs rfl HO.out ⟨nb, 0, none⟩ 1 1 news rfl (by rw [HNL.out]) (World.news_of_block HNB.out) H1.out (by decide) (by unfold maxLen; omega) (by omega) HB.out H HH.out.symm ?_; intro g cap w1 hown1 hg1 hat hlt)
  all_goals go_ret
  all_goals exact ⟨_, rfl, hown1, (kept_of_grown hg1).mono (fun j _ h => (ownBlock_cap _ _ _ _ _).trans h), fun k hk => by
    simp [Value.ownBlock] at hk; subst hk
    rcases hat with h | h
    · exact .inl ((ownBlock_cap _ _ _ _ _).trans h)
    · exact .inr (by rw [h, HH.out]; exact Nat.le_refl _)⟩
set_option maxHeartbeats 4000000 in
set_option maxRecDepth 100000 in
/-- Ahead of the end, where there is room: in place. -/
theorem tk_insert_shift (w : World) (base n c i g : Nat) (xs : List Value) (hown : w.ownsRow base 39 5 (.slice (some ⟨g, 0, none⟩) n c) n xs) (hin : i < n) (hroom : n + 1 ≤ c) (nb : Nat) (news : List Value) (hnb : Blk w nb news.toArray 39) (hnl : news.length = 5) (h1 : ∀ v ∈ news, v.oneCell' = true) (hx1 : ∀ v ∈ xs, v.oneCell' = true) (hne : nb ≠ g) :
    Calls Try.prog 55 #[.slice (some ⟨g, 0, none⟩) n c, .int .i64 i, .slice (some ⟨nb, 0, none⟩) 1 1] w fun e w' => InsRes 39 5 w w' base (.slice (some ⟨g, 0, none⟩) n c) n (xs.take (i * 5) ++ news ++ xs.drop (i * 5)) e := by
  obtain ⟨L, hb, hbg, hnc, hcm, hl, ht⟩ := own_open hown
  have hlt := hb.lt
  unfold maxLen at hcm
  have hLq : n * 5 + 5 ≤ L.length := by rw [hl]; omega
  obtain ⟨cs1, hcs1⟩ : ∃ cs1, cs1 = (L.drop (i * 5)).take (n * 5 - i * 5) := ⟨_, rfl⟩
  have hcl : cs1.length = n * 5 - i * 5 := by rw [hcs1, List.length_take, List.length_drop]; omega
  have hcs1x : cs1 = xs.drop (i * 5) := by rw [hcs1, ← ht, List.drop_take]
  have hc1 : ∀ v ∈ cs1, v.oneCell' = true := fun v hv => hx1 v (by rw [hcs1x] at hv; exact List.mem_of_mem_drop hv)
  have hov : ∀ lb cb, (callFunc 100 #[.slice (some ⟨nb, 0, none⟩) 1 1, .slice (some ⟨g, (i + 1) * 5, none⟩) lb cb]).run Try.prog w = .ok (.value (.bool false)) w := fun lb cb => by
    rw [run_callFunc_extern Try.func100 (by kernel_rfl) (by kernel_rfl) (by kernel_rfl) (e := Extern.SlicesOverlaps.overlaps #[44, 44] #[4]) (by kernel_rfl),
      Lib.run_overlaps_apart w 44 4 39 Try.underlying44 5 Try.sizeOf39 ⟨nb, 0, none⟩ ⟨g, (i + 1) * 5, none⟩ 1 1 lb cb hne _ _ _ _ (blk_shape hnb) (blk_shape hb) (by simp only [List.size_toArray]; omega) (hnb.frozen _) (hnb.frozen _)]
    rfl
  have hcp1 : ∀ ty dc sc, (Builtin.copy_ #[44, 44] ty #[.slice (some ⟨g, (i + 1) * 5, none⟩) (n - i) dc, .slice (some ⟨g, i * 5, none⟩) (n + 1 - i) sc]).run Try.prog w.drew = .ok (goInt (Nat.min (n + 1 - i) (n - i) : Nat)) (w.drew.setCells g ((i + 1) * 5) cs1) := fun ty dc sc =>
    run_copyN w.drew _ _ ty 39 5 g ((i + 1) * 5) (n - i) dc ⟨g, i * 5, none⟩ (n + 1 - i) sc cs1 Try.underlying44 tk_size (by rw [hcl]; simp only [Nat.min_def]; split <;> omega)
      (fun j v hj => by
        rw [Addr.add_lit, World.cell?_drew, hb.cell]
        rw [hcs1, List.getElem?_take] at hj
        split at hj
        · rw [List.getElem?_drop] at hj; simpa using hj
        · cases hj)
      (fun j hj => by rw [World.cell?_drew]; exact blk_isSome hb (by omega)) (fun j hj => by rw [World.frozen?_drew]; exact hb.frozen _) hc1
  obtain ⟨W1, hW1⟩ : ∃ W1, W1 = w.drew.setCells g ((i + 1) * 5) cs1 := ⟨_, rfl⟩
  have hb1 : Blk W1 g (splice L ((i + 1) * 5) cs1).toArray 39 := by rw [hW1]; exact blk_setCells _ _ _ _ (blk_drew hb) (by omega)
  have hk1 : Kept w W1 (fun k => k = g) := by rw [hW1]; exact kept_setCells g _ _ _ _ _ (Kept.refl _ _).drew (fun _ => rfl)
  have hnb1 : Blk W1 nb news.toArray 39 := hnb.kept hk1 hne
  have hsl : (splice L ((i + 1) * 5) cs1).length = L.length := length_splice _ _ _ (by omega)
  have hcp2 : ∀ ty dc, (Builtin.copy_ #[44, 44] ty #[.slice (some ⟨g, i * 5, none⟩) (n + 1 - i) dc, .slice (some ⟨nb, 0, none⟩) 1 1]).run Try.prog W1 = .ok (goInt (Nat.min 1 (n + 1 - i) : Nat)) (W1.setCells g (i * 5) news) := fun ty dc =>
    run_copyN W1 _ _ ty 39 5 g (i * 5) (n + 1 - i) dc ⟨nb, 0, none⟩ 1 1 news Try.underlying44 tk_size (by rw [hnl]; simp only [Nat.min_def]; split <;> omega)
      (fun j v hj => by rw [Addr.add_lit, hnb1.cell]; simpa using hj)
      (fun j hj => blk_isSome hb1 (by rw [hsl]; omega)) (fun j hj => hb1.frozen _) h1
  have hfin : InsRes 39 5 w (W1.setCells g (i * 5) news) base (.slice (some ⟨g, 0, none⟩) n c) n (xs.take (i * 5) ++ news ++ xs.drop (i * 5)) (.returned (.slice (some ⟨g, 0, none⟩) (n + 1) c)) := by
    refine ⟨_, rfl, own_shut (blk_setCells _ _ _ _ hb1 (by rw [hsl]; omega)) hbg hroom (by unfold maxLen; omega) (by rw [length_splice _ _ _ (by rw [hsl]; omega), hsl, hl]) ?_, ?_, fun k hk => .inl ?_⟩
    · rw [hcs1, show (i + 1) * 5 = i * 5 + 5 by omega, show (n + 1) * 5 = n * 5 + 5 by omega, ← ht]
      exact shift_list L news (i * 5) (n * 5) 5 (by omega) hLq hnl
    · exact (kept_setCells g _ _ _ _ _ hk1 (fun _ => rfl)).mono (fun j _ h => by rw [h]; rfl)
    · simp [Value.ownBlock] at hk ⊢; exact hk
  have HF := Lib.hid hfin
  rw [← hW1] at hcp1
  have HC1 := Lib.hid hcp1
  have HC2 := Lib.hid hcp2
  have mixed : Try.prog.follows .mixedOrders = true := by kernel_rfl
  have hz2 : ¬ ((i : Int) = (n : Int)) := by omega
  have hw1 : IntKind.i64.wrap ((i : Int) + 1) = (i : Int) + 1 := by rw [IntKind.wrap_i64]; omega
  have hw2 : IntKind.i64.wrap ((n : Int) + 1) = (n : Int) + 1 := by rw [IntKind.wrap_i64]; omega
  have hp1 : (0 : Int) ≤ (i : Int) + 1 := by omega
  have hp2 : ((i : Int) + 1).toNat = i + 1 := by omega
  have hp3 : ((n : Int) + 1).toNat = n + 1 := by omega
  have hp4 : (i : Int) ≤ (n : Int) + 1 := by omega
  have hin' : i ≤ n := by omega
  have hin2 : i ≤ n + 1 := by omega
  have hci : ¬ (c = i) := by omega
  have hci1 : ¬ (c = i + 1) := by omega
  have hcn : (n : Int) + 1 ≤ (c : Int) := by omega
  have hnot : ∀ (x : Bool) (w : World), (Op.unary .not (.bool x)).run Try.prog w = .ok (.bool (!x)) w := fun _ _ => rfl
  clear hown hb hbg hl ht hLq hcs1 hcl hcs1x hc1 hW1 hb1 hk1 hnb1 hsl hcp1 hcp2 hfin hnb hnl h1 hx1 hlt
  go_enter Try.func55, Try.ntmps55
  go_wp2_with (simp only [hov])
  go_region_law (refine step_copy_runI rfl _ _ 44 44 rfl (.slice (some ⟨g, (i + 1) * 5, none⟩) (n - i) (c - (i + 1))) (.slice (some ⟨g, i * 5, none⟩) (n + 1 - i) (c - i)) (by simp [Act.eval, Act.put]) (by simp [Act.eval, Act.put]) (HC1.out _ _ _) ?_)
  go_wp2_with (with_reducible refine wpList_copy_runI _ rfl (.tmp 80) (.tmp 81) 44 44 rfl _ _ rfl rfl (HC2.out _ _) ?_)
  go_ret
  exact HF.out
set_option maxHeartbeats 4000000 in
set_option maxRecDepth 100000 in
/-- Ahead of the end, where there is no room: a new row. -/
theorem tk_insert_grow (w : World) (base n c i g : Nat) (xs : List Value) (hown : w.ownsRow base 39 5 (.slice (some ⟨g, 0, none⟩) n c) n xs) (hin : i < n) (hroom : c < n + 1) (hmany : n ≤ 100000) (hbase : base ≤ w.heap.size) (nb : Nat) (news : List Value) (hnb : Blk w nb news.toArray 39) (hnl : news.length = 5) (h1 : ∀ v ∈ news, v.oneCell' = true) (hx1 : ∀ v ∈ xs, v.oneCell' = true) :
    Calls Try.prog 55 #[.slice (some ⟨g, 0, none⟩) n c, .int .i64 i, .slice (some ⟨nb, 0, none⟩) 1 1] w fun e w' => InsRes 39 5 w w' base (.slice (some ⟨g, 0, none⟩) n c) n (xs.take (i * 5) ++ news ++ xs.drop (i * 5)) e := by
  obtain ⟨i0, hi0, hz0, hzs, hzb⟩ := info_parts tk_info
  have hxl := hown.1
  obtain ⟨L, hb, hbg, hnc, hcm, hl, ht⟩ := own_open hown
  have hlt := hb.lt
  have hnlt := hnb.lt
  unfold maxLen at hcm
  have hck : ∀ j u, xs[j]? = some u → w.cell? ⟨g, j, none⟩ = some u := fun j u hu => by
    rw [hb.cell]
    rw [← ht, List.getElem?_take] at hu
    split at hu
    · simpa using hu
    · cases hu
  have hkk : (n : Int) + 1 - (i : Int) = ((n + 1 - i : Nat) : Int) := by omega
  have hik : i + (n + 1 - i) = n + 1 := by omega
  have hold : (Builtin.firstCells i0.size i (.slice (some ⟨g, 0, none⟩) i c)).run Try.prog w.drew = .ok (xs.take (i * 5)).toArray w.drew := by
    rw [hzs]
    exact run_firstCells_some w.drew 5 i ⟨g, 0, none⟩ i c (xs.take (i * 5)) (by rw [List.length_take, hxl]; omega) (fun j v hj => by
      rw [Addr.add_lit, Nat.zero_add, World.cell?_drew]
      rw [List.getElem?_take] at hj
      split at hj
      · exact hck j v hj
      · cases hj)
  obtain ⟨G, hG⟩ : ∃ G, G = grownCap w (n + 1) c 39 := ⟨_, rfl⟩
  have hGn : n + 1 ≤ G := by rw [hG]; exact grownCap_ge w _ _ _
  have hG63 : G ≤ 9223372036854775807 := by
    have := grownCap_le_maxLen w (n + 1) c 39 (by unfold maxLen; omega)
    rw [← hG] at this
    unfold maxLen at this
    omega
  obtain ⟨ROW, hROW⟩ : ∃ ROW : List Value, ROW = ((xs.take (i * 5)).toArray ++ Builtin.zeroCells (.agg #[.int .u32 0, .int .i64 0, .slice none 0 0, .int .i64 0, .int .i64 0] : Value).cells (n + 1 - i) ++ Builtin.zeroCells (.agg #[.int .u32 0, .int .i64 0, .slice none 0 0, .int .i64 0, .int .i64 0] : Value).cells (G - (n + 1))).toList := ⟨_, rfl⟩
  have hRl : ROW.length = G * 5 := by
    rw [hROW]
    simp [Builtin.zeroCells, Value.cells, hxl]
    omega
  have hRp : ROW.take (i * 5) = xs.take (i * 5) := by
    rw [hROW]
    simp only [Array.toList_append, List.append_assoc]
    rw [List.take_left' (by rw [List.length_take, hxl]; omega)]
  obtain ⟨W1, hW1⟩ : ∃ W1, W1 = w.drew.alloc (.cells ROW.toArray 39) := ⟨_, rfl⟩
  have hrz : ∀ ty, (Builtin.append_ #[44, 3] ty #[.slice (some ⟨g, 0, none⟩) i c, .int .i64 ((n : Int) + 1 - (i : Int))]).run Try.prog w = .ok (.slice (some ⟨w.heap.size, 0, none⟩) (n + 1) G) W1 := fun ty => by
    have h := Lib.run_append_grow_zeros w 44 3 ty 39 i0 _ .i64 .i64 Try.underlying44 Try.underlying3 hi0 hz0 (some ⟨g, 0, none⟩) i c (xs.take (i * 5)) hold (n + 1 - i) (by omega) (by omega) (by omega) (by omega) (by rw [hzb]; omega) (by rw [hzb, hik]; exact growslice_fits hroom (by omega))
    rw [hik, ← hG] at h
    rw [hkk, hW1, hROW, Array.toArray_toList]
    exact h
  have hB1 : Blk W1 w.heap.size ROW.toArray 39 := by rw [hW1]; exact heap_alloc_new w.drew _
  have hk1 : Kept w W1 (fun _ => False) := by rw [hW1]; exact ((Kept.refl w _).drew).alloc _
  have hb1 := hb.kept hk1 (fun c => c)
  have hnb1 := hnb.kept hk1 (fun c => c)
  have hz1 : W1.heap.size = w.heap.size + 1 := by rw [hW1]; simp
  have hcp1 : ∀ ty dc, (Builtin.copy_ #[44, 44] ty #[.slice (some ⟨w.heap.size, i * 5, none⟩) (n + 1 - i) dc, .slice (some ⟨nb, 0, none⟩) 1 1]).run Try.prog W1 = .ok (goInt (Nat.min 1 (n + 1 - i) : Nat)) (W1.setCells w.heap.size (i * 5) news) := fun ty dc =>
    run_copyN W1 _ _ ty 39 5 w.heap.size (i * 5) (n + 1 - i) dc ⟨nb, 0, none⟩ 1 1 news Try.underlying44 tk_size (by rw [hnl]; simp only [Nat.min_def]; split <;> omega)
      (fun j v hj => by rw [Addr.add_lit, hnb1.cell]; simpa using hj)
      (fun j hj => blk_isSome hB1 (by rw [hRl]; omega)) (fun j hj => hB1.frozen _) h1
  obtain ⟨W2, hW2⟩ : ∃ W2, W2 = W1.setCells w.heap.size (i * 5) news := ⟨_, rfl⟩
  have hk2 : Kept w W2 (fun _ => False) := by rw [hW2]; exact kept_setCells _ _ _ _ _ _ hk1 (fun h => absurd h (by omega))
  have hB2 : Blk W2 w.heap.size (splice ROW (i * 5) news).toArray 39 := by rw [hW2]; exact blk_setCells _ _ _ _ hB1 (by rw [hRl]; omega)
  have hb2 := hb.kept hk2 (fun c => c)
  have hsl : (splice ROW (i * 5) news).length = G * 5 := by rw [length_splice _ _ _ (by rw [hRl]; omega), hRl]
  have hdl : (xs.drop (i * 5)).length = n * 5 - i * 5 := by rw [List.length_drop, hxl]
  have hcp2 : ∀ ty dc sc, (Builtin.copy_ #[44, 44] ty #[.slice (some ⟨w.heap.size, (i + 1) * 5, none⟩) (n - i) dc, .slice (some ⟨g, i * 5, none⟩) (n - i) sc]).run Try.prog W2.drew = .ok (goInt (Nat.min (n - i) (n - i) : Nat)) (W2.drew.setCells w.heap.size ((i + 1) * 5) (xs.drop (i * 5))) := fun ty dc sc =>
    run_copyN W2.drew _ _ ty 39 5 w.heap.size ((i + 1) * 5) (n - i) dc ⟨g, i * 5, none⟩ (n - i) sc (xs.drop (i * 5)) Try.underlying44 tk_size (by rw [hdl]; simp only [Nat.min_def]; split <;> omega)
      (fun j v hj => by
        rw [Addr.add_lit, World.cell?_drew, hk2.cell (p := ⟨g, i * 5 + j, none⟩) hlt (fun c => c)]
        exact hck _ v (by rwa [List.getElem?_drop] at hj))
      (fun j hj => by rw [World.cell?_drew]; exact blk_isSome hB2 (by rw [hsl]; omega)) (fun j hj => by rw [World.frozen?_drew]; exact hB2.frozen _) (fun v hv => hx1 v (List.mem_of_mem_drop hv))
  have hfin : InsRes 39 5 w (W2.drew.setCells w.heap.size ((i + 1) * 5) (xs.drop (i * 5))) base (.slice (some ⟨g, 0, none⟩) n c) n (xs.take (i * 5) ++ news ++ xs.drop (i * 5)) (.returned (.slice (some ⟨w.heap.size, 0, none⟩) (n + 1) G)) := by
    refine ⟨_, rfl, own_shut (blk_setCells _ _ _ _ (blk_drew hB2) (by rw [hsl]; omega)) hbase hGn (by unfold maxLen; omega) (by rw [length_splice _ _ _ (by rw [hsl]; omega), hsl]) ?_, ?_, fun k hk => .inr ?_⟩
    · rw [show (i + 1) * 5 = i * 5 + 5 by omega, show (n + 1) * 5 = n * 5 + 5 by omega]
      exact grow_list ROW xs news (i * 5) (n * 5) 5 (by omega) (by rw [hRl]; omega) hRp hxl hnl
    · exact (kept_setCells w.heap.size _ _ _ _ _ hk2.drew (fun h => absurd h (by omega))).mono (fun j _ h => h.elim)
    · simp [Value.ownBlock] at hk; omega
  have HF := Lib.hid hfin
  rw [← hW2] at hcp1
  have HRZ := Lib.hid hrz
  have HC1 := Lib.hid hcp1
  have HC2 := Lib.hid hcp2
  have mixed : Try.prog.follows .mixedOrders = true := by kernel_rfl
  have hz2 : ¬ ((i : Int) = (n : Int)) := by omega
  have hz3 : (c : Int) < (n : Int) + 1 := by omega
  have hw1 : IntKind.i64.wrap ((i : Int) + 1) = (i : Int) + 1 := by rw [IntKind.wrap_i64]; omega
  have hw2 : IntKind.i64.wrap ((n : Int) + 1) = (n : Int) + 1 := by rw [IntKind.wrap_i64]; omega
  have hp1 : (0 : Int) ≤ (i : Int) + 1 := by omega
  have hp2 : ((i : Int) + 1).toNat = i + 1 := by omega
  have hp5 : (i : Int) ≤ (n : Int) := by omega
  have hin' : i ≤ n := by omega
  have hin2 : i ≤ n + 1 := by omega
  have hci : ¬ (c = i) := by omega
  have hGi : ¬ (G = i) := by omega
  have hGi1 : ¬ (G = i + 1) := by omega
  clear hown hb hbg hl ht hck hkk hik hold hG hROW hRl hRp hW1 hrz hB1 hk1 hb1 hnb1 hz1 hcp1 hW2 hk2 hB2 hb2 hsl hdl hcp2 hfin hnb hnl h1 hx1 hi0 hz0 hzs hzb hbase hlt hnlt hxl
  go_enter Try.func55, Try.ntmps55
  go_wp2_with (first
    | (at_builtin; refine Lib.wpList_append_run _ rfl (.tmp 34) (.tmp 39) 44 3 rfl _ _ rfl rfl _ _ (HRZ.out _) ?_)
    | (with_reducible refine wpList_copy_runI _ rfl (.tmp 43) (.tmp 44) 44 44 rfl _ _ rfl rfl (HC1.out _ _) ?_))
  go_region_law (refine step_copy_runI rfl _ _ 44 44 rfl (.slice (some ⟨w.heap.size, (i + 1) * 5, none⟩) (n - i) (G - (i + 1))) (.slice (some ⟨g, i * 5, none⟩) (n - i) (c - i)) (by simp [Act.eval, Act.put]) (by simp [Act.eval, Act.put]) (HC2.out _ _ _) ?_)
  go_wp2
  go_ret
  exact HF.out
/-- slices.Insert of one element into an owned row. -/
theorem tk_insert (w : World) (base n i : Nat) (va : Value) (xs : List Value) (hown : w.ownsRow base 39 5 va n xs) (hin : i ≤ n) (hmany : n ≤ 100000) (hbase : base ≤ w.heap.size) (nb : Nat) (news : List Value) (hnb : Blk w nb news.toArray 39) (hnl : news.length = 5) (h1 : ∀ v ∈ news, v.oneCell' = true) (hx1 : ∀ v ∈ xs, v.oneCell' = true) (hne : va.ownBlock ≠ some nb) :
    Calls Try.prog 55 #[va, .int .i64 i, .slice (some ⟨nb, 0, none⟩) 1 1] w fun e w' => InsRes 39 5 w w' base va n (xs.take (i * 5) ++ news ++ xs.drop (i * 5)) e := by
  by_cases hlt : i < n
  · rcases hown.2 with ⟨_, h0⟩ | ⟨g, cap, cur, rfl, _, _, h3, h4, _⟩
    · omega
    · by_cases hroom : n + 1 ≤ cap
      · exact tk_insert_shift w base n cap i g xs hown hlt hroom nb news hnb hnl h1 hx1 (fun e => hne (by rw [e]; rfl))
      · exact tk_insert_grow w base n cap i g xs hown hlt (by omega) hmany hbase nb news hnb hnl h1 hx1
  · obtain rfl : i = n := by omega
    rw [List.take_of_length_le (by rw [hown.1]; omega), List.drop_of_length_le (by rw [hown.1]; omega), List.append_nil]
    exact tk_insert_end w base i 0 va xs hown nb news hnb hnl h1 hmany hbase
set_option maxHeartbeats 4000000 in
set_option maxRecDepth 100000 in
/-- slices.Delete of one element out of an owned row. -/
theorem tk_delete (w : World) (base n i : Nat) (va : Value) (xs : List Value) (hown : w.ownsRow base 39 5 va n xs) (hin : i < n) (hx1 : ∀ v ∈ xs, v.oneCell' = true) :
    Calls Try.prog 64 #[va, .int .i64 i, .int .i64 ((i + 1 : Nat) : Int)] w fun e w' => DelRes 39 5 w w' base va n (xs.take (i * 5) ++ xs.drop ((i + 1) * 5)) e := by
  obtain ⟨i0, hi0, hz0, hzs, hzb⟩ := info_parts tk_info
  obtain ⟨g, c, rfl⟩ : ∃ g c, va = .slice (some ⟨g, 0, none⟩) n c := by
    rcases hown.2 with ⟨_, h0⟩ | ⟨g, cap, cur, rfl, _⟩
    · omega
    · exact ⟨g, cap, rfl⟩
  have hxl := hown.1
  obtain ⟨L, hb, hbg, hnc, hcm, hl, ht⟩ := own_open hown
  have hlt := hb.lt
  unfold maxLen at hcm
  have hck : ∀ j u, xs[j]? = some u → w.cell? ⟨g, j, none⟩ = some u := fun j u hu => by
    rw [hb.cell]
    rw [← ht, List.getElem?_take] at hu
    split at hu
    · simpa using hu
    · cases hu
  obtain ⟨news, hnews⟩ : ∃ news, news = xs.drop ((i + 1) * 5) := ⟨_, rfl⟩
  have hnl : news.length = (n - (i + 1)) * 5 := by rw [hnews, List.length_drop, hxl]; omega
  obtain ⟨A, hA, hsrc⟩ : ∃ A : Addr, (if c = i + 1 then some (⟨g, 0, none⟩ : Addr) else some ⟨g, (i + 1) * 5, none⟩) = some A ∧ ∀ j u, news[j]? = some u → w.drew.cell? (A.add j) = some u := by
    by_cases h : c = i + 1
    · refine ⟨⟨g, 0, none⟩, by simp [h], fun j u hu => ?_⟩
      rw [List.length_eq_zero_iff.1 (by rw [hnl]; omega : news.length = 0)] at hu
      simp at hu
    · refine ⟨⟨g, (i + 1) * 5, none⟩, by simp [h], fun j u hu => ?_⟩
      rw [Addr.add_lit, World.cell?_drew]
      exact hck _ u (by rw [hnews, List.getElem?_drop] at hu; exact hu)
  have hn1 : ∀ u ∈ news, u.oneCell' = true := fun u hu => hx1 u (by rw [hnews] at hu; exact List.mem_of_mem_drop hu)
  have hap : ∀ ty, (Builtin.append_ #[44, 44] ty #[.slice (some ⟨g, 0, none⟩) i c, .slice (some A) (n - (i + 1)) (c - (i + 1))]).run Try.prog w.drew = .ok (.slice (some ⟨g, 0, none⟩) (i + (n - (i + 1))) c) (w.drew.setCells g (i * 5) news) := fun ty => by
    have h := run_append_room_cells (P := Try.prog) w.drew 44 ty 39 i0 Try.underlying44 hi0 g 0 i c A (n - (i + 1)) (c - (i + 1)) news (by rw [hzs]; exact hnl) hsrc hn1 (by omega)
      (fun j hj => by rw [World.cell?_drew, hzs]; exact blk_isSome hb (by rw [hnl] at hj; omega)) (fun j hj => by rw [World.frozen?_drew]; exact hb.frozen _)
    rw [hzs, Nat.zero_add] at h
    exact h
  obtain ⟨W1, hW1⟩ : ∃ W1, W1 = w.drew.setCells g (i * 5) news := ⟨_, rfl⟩
  have hb1 : Blk W1 g (splice L (i * 5) news).toArray 39 := by rw [hW1]; exact blk_setCells _ _ _ _ (blk_drew hb) (by rw [hnl]; omega)
  have hsl : (splice L (i * 5) news).length = c * 5 := by rw [length_splice _ _ _ (by rw [hnl]; omega), hl]
  have hk1 : Kept w W1 (fun k => k = g) := by rw [hW1]; exact kept_setCells g _ _ _ _ _ (Kept.refl _ _).drew (fun _ => rfl)
  rw [← hW1] at hap
  have hcl : ∀ ty, (Builtin.clear_ #[44] ty #[.slice (some ⟨g, (n - 1) * 5, none⟩) 1 (c - (n - 1))]).run Try.prog W1 = .ok (.tuple #[]) (W1.setCells g ((n - 1) * 5) (Builtin.zeroCells (.agg #[.int .u32 0, .int .i64 0, .slice none 0 0, .int .i64 0, .int .i64 0] : Value).cells 1).toList) := fun ty =>
    run_clearN W1 44 39 ty (.agg #[.int .u32 0, .int .i64 0, .slice none 0 0, .int .i64 0, .int .i64 0]) 5 Try.underlying44 Try.zeroValue39 g ((n - 1) * 5) 1 (c - (n - 1)) (by decide) _ rfl tk_zone
      (fun j hj => blk_isSome hb1 (by rw [hsl]; simp [Builtin.zeroCells, Value.cells] at hj; omega)) (fun j hj => hb1.frozen _)
  have hfin : DelRes 39 5 w (W1.setCells g ((n - 1) * 5) (Builtin.zeroCells (.agg #[.int .u32 0, .int .i64 0, .slice none 0 0, .int .i64 0, .int .i64 0] : Value).cells 1).toList) base (.slice (some ⟨g, 0, none⟩) n c) n (xs.take (i * 5) ++ xs.drop ((i + 1) * 5)) (.returned (.slice (some ⟨g, 0, none⟩) (n - 1) c)) := by
    have hzl : (Builtin.zeroCells (.agg #[.int .u32 0, .int .i64 0, .slice none 0 0, .int .i64 0, .int .i64 0] : Value).cells 1).toList.length = 5 := by simp [Builtin.zeroCells, Value.cells]
    refine ⟨_, rfl, own_shut (blk_setCells _ _ _ _ hb1 (by rw [hsl, hzl]; omega)) hbg (by omega) (by unfold maxLen; omega) (by rw [length_splice _ _ _ (by rw [hsl, hzl]; omega), hsl]) ?_, ?_, rfl⟩
    · rw [hnews, ← ht, show (i + 1) * 5 = i * 5 + 5 by omega, show (n - 1) * 5 = n * 5 - 5 by omega]
      exact del_list L _ (i * 5) (n * 5) 5 (by omega) (by rw [hl]; omega) hzl
    · exact (kept_setCells g _ _ _ _ _ hk1 (fun _ => rfl)).mono (fun j _ h => by rw [h]; rfl)
  have HF := Lib.hid hfin
  have HAP := Lib.hid hap
  generalize W1.setCells g ((n - 1) * 5) (Builtin.zeroCells (.agg #[.int .u32 0, .int .i64 0, .slice none 0 0, .int .i64 0, .int .i64 0] : Value).cells 1).toList = W2 at hcl HF
  have mixed : Try.prog.follows .mixedOrders = true := by kernel_rfl
  have hw1 : IntKind.i64.wrap ((i : Int) + 1) = (i : Int) + 1 := by rw [IntKind.wrap_i64]; omega
  have hz2 : ¬ ((i : Int) = (i : Int) + 1) := by omega
  have hp0 : (0 : Int) ≤ (i : Int) + 1 := by omega
  have hp1 : (i : Int) + 1 ≤ (n : Int) := by omega
  have hp2 : ((i : Int) + 1).toNat = i + 1 := by omega
  have hp3 : i ≤ i + 1 := by omega
  have hp4 : i + 1 ≤ n := by omega
  have hic : i ≤ c := by omega
  have hnm : i + (n - (i + 1)) = n - 1 := by omega
  have hnm2 : n - (n - 1) = 1 := by omega
  have hcn : ¬ (c = n - 1) := by omega
  clear hown hb hbg hl ht hck hnews hnl hsrc hn1 hap hW1 hb1 hsl hk1 hfin hi0 hz0 hzs hzb hlt hx1 hxl
  rw [show (((i + 1 : Nat) : Int)) = (i : Int) + 1 by omega]
  go_enter Try.func64, Try.ntmps64
  go_wp2_with fail
  go_region_law (refine step_append_eq rfl (.tmp 22) (.tmp 25) 44 44 rfl (.slice (some ⟨g, 0, none⟩) i c) (.slice (some A) (n - (i + 1)) (c - (i + 1))) (by simp [Act.eval, Act.put]) (by simp [Act.eval, Act.put]) (HAP.out _) ?_)
  clear hA HAP
  go_wp2
  go_ret
  exact HF.out
end Go.Proofs.Ytlkpmlcmgggifaa
namespace Go.Proofs.Ytlkpmlcmgggifaa
open Go.RowKit
structure Md where
  k : Int
  b : Int
  s : Int
  c : Int
  e : Int
def Md.zero : Md := ⟨0, 0, 0, 0, 0⟩
def Md.cs (m : Md) : List Value := [.int .i64 m.k, .int .i64 m.b, .int .i64 m.s, .int .i64 m.c, .int .i64 m.e]
/-- v shows the modes ms. -/
def ShowsM (w : World) (v : Value) (ms : List Md) : Prop :=
  ∃ A c, v = .slice A ms.length c ∧ (0 < ms.length → ∃ b, A = some ⟨b, 0, none⟩ ∧ b < w.heap.size ∧ ∀ i, i < ms.length → w.cell? ⟨b, i * 5, none⟩ = some (.int .i64 (ms.getD i Md.zero).k) ∧ w.cell? ⟨b, i * 5 + 1, none⟩ = some (.int .i64 (ms.getD i Md.zero).b) ∧ w.cell? ⟨b, i * 5 + 2, none⟩ = some (.int .i64 (ms.getD i Md.zero).s) ∧ w.cell? ⟨b, i * 5 + 3, none⟩ = some (.int .i64 (ms.getD i Md.zero).c) ∧ w.cell? ⟨b, i * 5 + 4, none⟩ = some (.int .i64 (ms.getD i Md.zero).e))
theorem info3 : (Try.prog.info? 3).map (fun i => (i.zero, i.size, i.bytes)) = some (some (.int .i64 0), 1, 8) := by kernel_rfl
def NewRes (w w' : World) (ms : List Md) (e : Ending) : Prop :=
  ∃ g vs, e = .returned (.pointer (some ⟨g, 0, none⟩)) ∧ QRep w' w.heap.size g (.slice none 0 0) vs [] (ms.map Md.k) ∧ Below w.heap.size w w'
set_option maxHeartbeats 3200000 in
set_option maxRecDepth 100000 in
theorem new_any (w : World) (k0 k1 k2 k3 k4 k5 k6 k7 k8 k9 k10 k11 k12 : Value) (h0 : k0.oneCell' = true) (h1 : k1.oneCell' = true) (h2 : k2.oneCell' = true) (h3 : k3.oneCell' = true) (h4 : k4.oneCell' = true) (h5 : k5.oneCell' = true) (h6 : k6.oneCell' = true) (h7 : k7.oneCell' = true) (h8 : k8.oneCell' = true) (h9 : k9.oneCell' = true) (h10 : k10.oneCell' = true) (h11 : k11.oneCell' = true) (h12 : k12.oneCell' = true)
    (v : Value) (ms : List Md) (hs : ShowsM w v ms) (hmany : ms.length ≤ 1000) :
    Calls Try.prog 8 #[.agg #[k0, k1, k2, k3, k4, k5, k6, k7, k8, k9, k10, k11, k12, v]] w fun e w' => NewRes w w' ms e := by
  obtain ⟨i0, hi, hz0, hz1, hz2⟩ := info_parts info3
  have HI := Lib.hid hi
  have HZ0 := Lib.hid hz0
  have HZ1 := Lib.hid hz1
  have HZ2 := Lib.hid hz2
  clear hi hz0 hz1 hz2
  obtain ⟨A, c, rfl, hA⟩ := hs
  by_cases hpos : 0 < ms.length
  · obtain ⟨b, rfl, hlt, hc⟩ := hA hpos
    have HC := Lib.hid hc
    have HL := Lib.hid hlt
    obtain ⟨n, hn⟩ : ∃ n, n = ms.length := ⟨_, rfl⟩
    rw [← hn] at hmany hpos HC ⊢
    have HN := Lib.hid hn
    clear hc hA hn hlt
    obtain ⟨bX, bQ⟩ := two_blk w #[k0, k1, k2, k3, k4, k5, k6, k7, k8, k9, k10, k11, k12, .slice (some ⟨b, 0, none⟩) n c] #[.slice none 0 0, .slice none 0 0] 29 106
    have BX := Lib.hid bX
    have BQ := Lib.hid bQ
    clear bX bQ
    have B0 := Lib.hid (below_two w (.cells #[k0, k1, k2, k3, k4, k5, k6, k7, k8, k9, k10, k11, k12, .slice (some ⟨b, 0, none⟩) n c] 29) (.cells #[.slice none 0 0, .slice none 0 0] 106))
    go_enter Try.func8, Try.ntmps8
    go_wp2_with fail
    go_loopw [11] (fun i W => ∃ (k : Nat) (vs : Value), k ≤ n ∧ i = .int .i64 k ∧ Hid (Blk W (w.heap.size + 1) #[.slice none 0 0, vs] 106) ∧ Hid (OwnN W w.heap.size 3 .i64 vs ((ms.take k).map Md.k)) ∧ Hid (Below w.heap.size w W)) (fun i _ => n - (intOf i).toNat)
    case atStart => exact ⟨0, _, Nat.zero_le _, rfl, BQ.out, World.ownsRow_nil _ _ _ _, B0.out⟩
    case round =>
      obtain ⟨k, vs, hk, rfl, HQ, HO, HB⟩ := hrel
      by_cases hltk : k < n
      · obtain ⟨c0, c1, c2, c3, c4⟩ := HC.out k hltk
        have b0 := (HB.out.cell (p := ⟨b, k * 5, none⟩) HL.out).trans c0
        have b1 := (HB.out.cell (p := ⟨b, k * 5 + 1, none⟩) HL.out).trans c1
        have b2 := (HB.out.cell (p := ⟨b, k * 5 + 2, none⟩) HL.out).trans c2
        have b3 := (HB.out.cell (p := ⟨b, k * 5 + 3, none⟩) HL.out).trans c3
        have b4 := (HB.out.cell (p := ⟨b, k * 5 + 4, none⟩) HL.out).trans c4
        clear c0 c1 c2 c3 c4
        obtain ⟨m, hm⟩ : ∃ m, m = ms.getD k Md.zero := ⟨_, rfl⟩
        rw [← hm] at b0 b1 b2 b3 b4
        have HM := Lib.hid hm
        clear hm
        obtain ⟨va, cq, rfl⟩ : ∃ va cq, vs = .slice va k cq := by
          have hkl : ((ms.take k).map Md.k).length = k := by rw [List.length_map, List.length_take]; have := HN.out; omega
          rcases HO.out.2 with ⟨rfl, h0⟩ | ⟨g, cap, cur, rfl, _⟩
          · exact ⟨none, 0, by rw [← hkl, h0]⟩
          · exact ⟨_, cap, by rw [hkl]⟩
        go_wp2_with fail
        have hbx := heap_alloc_new wr (.cells #[.int .i64 m.k, .int .i64 m.b, .int .i64 m.s, .int .i64 m.c, .int .i64 m.e] 32)
        obtain ⟨W1, hW1⟩ : ∃ W1, W1 = wr.alloc (.cells #[.int .i64 m.k, .int .i64 m.b, .int .i64 m.s, .int .i64 m.c, .int .i64 m.e] 32) := ⟨_, rfl⟩
        rw [← hW1] at hbx ⊢
        have hb1 : Below wr.heap.size wr W1 := by rw [hW1]; exact (Below.refl _ _).alloc (Nat.le_refl _) _
        have hQ1 := HQ.out.below hb1
        obtain ⟨cQ, fQ⟩ := blk_rule hQ1
        have hX1 : Blk W1 wr.heap.size _ _ := hbx
        have cX := hX1.cell 0
        simp only [List.getElem?_toArray, List.getElem?_cons_zero] at cX
        have hkl : ((ms.take k).map Md.k).length = k := by rw [List.length_map, List.length_take]; have := HN.out; omega
        have ho1 : W1.ownsRow w.heap.size 3 1 (.slice va k cq) k (((ms.take k).map Md.k).map (Value.int .i64)) := by
          have h := own_below HO.out hb1
          rw [hkl] at h
          exact h
        have HO3 := Lib.hid (own_below ho1 (((Below.refl _ _).alloc (Nat.le_refl _) (.cells #[.int .i64 m.k] 3)).drew))
        have HB1 := Lib.hid (HB.out.trans (hb1.mono HB.out.size))
        have HB3 := Lib.hid ((HB1.out.alloc HB1.out.size (.cells #[.int .i64 m.k] 3)).drew)
        have HQ3 := Lib.hid (hQ1.below (((Below.refl _ _).alloc (Nat.le_refl _) (.cells #[.int .i64 m.k] 3)).drew))
        have hlt1 := hQ1.lt
        have hltX := hX1.lt
        clear hb1 hQ1 hX1 hbx hW1 ho1 HQ HO HB b0 b1 b2 b3 b4
        go_region_law ((refine step_append_lies _ (by rfl) _ _ _ (by rfl) w.heap.size 3 i0 _ 1 8 Try.underlying104 HI.out HZ0.out HZ1.out HZ2.out rfl (by decide) (.slice va k cq) k (((ms.take k).map Md.k).map (Value.int .i64)) (by simp [Act.eval, Act.put]) HO3.out ⟨W1.heap.size, 0, none⟩ 1 1 [.int .i64 m.k] (by simp [Act.eval, Act.put]) (by rfl) (World.news_of_block (cs := #[.int .i64 m.k]) (t := 3) (fr := (0, 0)) (heap_alloc_new W1 _)) (by simp [Value.oneCell']) (by decide) (by unfold maxLen; omega) (by omega) HB3.out.size _ rfl ?_; intro gg cap w1 hown1 hgrow hat hlt; have hQw := HQ3.out.kept (kept_of_grown hgrow) (fun e => own_ne HO3.out HQ3.out (by decide) _ e rfl); obtain ⟨cW, fW⟩ := blk_rule hQw))
        all_goals
          have hkept := kept_of_grown hgrow
          have HOW := Lib.hid hown1
          have HQW := Lib.hid hQw
          have HBW := Lib.hid (HB3.out.grown hgrow HB3.out.size (fun kk e => (own_blk HO3.out e).choose_spec.2))
          have hggQ : gg ≠ w.heap.size + 1 := own_ne hown1 hQw (by decide) gg rfl
          clear hown1 hgrow hat hlt hQw hkept
          go_wp2
          go_roundw
          case rel =>
            refine ⟨k + 1, .slice (some ⟨gg, 0, none⟩) (k + 1) cap, by omega, by go_num, ?_, ?_, HBW.out.setCell (by simp) _⟩
            · have := blk_setCell (cur := [.slice none 0 0, .slice va k cq]) HQW.out 1 (.slice (some ⟨gg, 0, none⟩) (k + 1) cap)
              exact this
            · have h2 := own_setCell HOW.out (a := ⟨w.heap.size + 1, 1, none⟩) (fun kk e => by simp [Value.ownBlock] at e; subst e; exact hggQ) (.slice (some ⟨gg, 0, none⟩) (k + 1) cap)
              have h3 : (ms.take (k + 1)).map Md.k = (ms.take k).map Md.k ++ [m.k] := by
                rw [List.take_succ_eq_append_getElem (by rw [← HN.out]; exact hltk), List.map_append, HM.out]
                simp [List.getD, show k < ms.length by rw [← HN.out]; exact hltk]
              show World.ownsRow _ _ _ _ _ _ _
              rw [h3, List.length_append, hkl, List.map_append]
              exact h2
          case measure => simp [intOf]; omega
      · have hge : ¬ ((k : Int) < (n : Int)) := by omega
        have hkn : k = n := by omega
        subst hkn
        go_wp2_with fail
        go_ret
        have ht : ms.take k = ms := List.take_of_length_le (by have := HN.out; omega)
        exact ⟨w.heap.size + 1, vs, rfl, ⟨HQ.out, by omega, World.ownsRow_nil _ _ _ _, (by have := HO.out; rw [ht] at this; exact this), (fun t ht => by cases ht), (fun t ht => by cases ht)⟩, HB.out⟩
  · obtain rfl : ms = [] := List.eq_nil_of_length_eq_zero (by omega)
    clear hA hpos
    obtain ⟨bX, bQ⟩ := two_blk w #[k0, k1, k2, k3, k4, k5, k6, k7, k8, k9, k10, k11, k12, .slice A 0 c] #[.slice none 0 0, .slice none 0 0] 29 106
    have BQ := Lib.hid bQ
    have B0 := Lib.hid (below_two w (.cells #[k0, k1, k2, k3, k4, k5, k6, k7, k8, k9, k10, k11, k12, .slice A 0 c] 29) (.cells #[.slice none 0 0, .slice none 0 0] 106))
    clear bX bQ
    simp only [List.length_nil]
    go_enter Try.func8, Try.ntmps8
    go_wp2_with fail
    refine wp_loop_rounds 1 ?_; rw [rounds_succ]
    go_wp2
    go_ret
    exact ⟨w.heap.size + 1, _, rfl, ⟨BQ.out, by omega, World.ownsRow_nil _ _ _ _, World.ownsRow_nil _ _ _ _, (fun t ht => by cases ht), (fun t ht => by cases ht)⟩, B0.out⟩
end Go.Proofs.Ytlkpmlcmgggifaa
namespace Go.Proofs.Ytlkpmlcmgggifaa
open Go.RowKit
theorem info32 : (Try.prog.info? 32).map (fun i => (i.zero, i.size, i.bytes)) = some (some (.agg #[.int .i64 0, .int .i64 0, .int .i64 0, .int .i64 0, .int .i64 0]), 5, 40) := by kernel_rfl
theorem flat_getM (ms : List Md) : ∀ (i : Nat), i < ms.length → ∀ j, j < 5 → (ms.flatMap Md.cs)[i * 5 + j]? = (ms.getD i Md.zero).cs[j]? := by
  induction ms with
  | nil => intro i hi; simp at hi
  | cons t r ih =>
    intro i hi j hj
    have hl : t.cs.length = 5 := rfl
    rw [List.flatMap_cons]
    cases i with
    | zero => rw [List.getElem?_append_left (by omega)]; simp
    | succ i =>
      rw [List.getElem?_append_right (by omega), hl, show (i + 1) * 5 + j - 5 = i * 5 + j by omega, ih i (by simpa using hi) j hj]
      simp
theorem flat_lenM (ms : List Md) : (ms.flatMap Md.cs).length = ms.length * 5 := by
  induction ms with
  | nil => rfl
  | cons t r ih => rw [List.flatMap_cons, List.length_append, ih, List.length_cons, show t.cs.length = 5 from rfl]; omega
theorem flat_oneM (ms : List Md) : ∀ u ∈ ms.flatMap Md.cs, u.oneCell' = true := by
  intro u hu
  obtain ⟨m, _, hm⟩ := List.mem_flatMap.1 hu
  simp only [Md.cs, List.mem_cons, List.not_mem_nil, or_false] at hm
  rcases hm with rfl | rfl | rfl | rfl | rfl <;> rfl
theorem own_showsM {w : World} {base e : Nat} {v : Value} {ms : List Md} (h : w.ownsRow base e 5 v ms.length (ms.flatMap Md.cs)) : ShowsM w v ms := by
  rcases h.2 with ⟨rfl, hn⟩ | ⟨g, cap, cur, rfl, hb, hgg, hnc, hcm, hcs, ht⟩
  · exact ⟨none, 0, by rw [hn], fun h => by omega⟩
  · have h1 : w.ownsRow base e 5 (.slice (some ⟨g, 0, none⟩) ms.length cap) ms.length (ms.flatMap Md.cs) := h
    have hc : ∀ i, i < ms.length → ∀ j, j < 5 → w.cell? ⟨g, i * 5 + j, none⟩ = (ms.getD i Md.zero).cs[j]? := fun i hi j hj => by
      rw [h1.cellAt _ (by omega), flat_getM ms i hi j hj]
    exact ⟨_, cap, rfl, fun _ => ⟨g, rfl, (Array.getElem?_eq_some_iff.1 hgg).1, fun i hi => ⟨hc i hi 0 (by omega), hc i hi 1 (by omega), hc i hi 2 (by omega), hc i hi 3 (by omega), hc i hi 4 (by omega)⟩⟩⟩
theorem ShowsM.below {w w' : World} {v : Value} {ms : List Md} (h : ShowsM w v ms) (hb : Below w.heap.size w w') : ShowsM w' v ms := by
  obtain ⟨A, c, rfl, hA⟩ := h
  refine ⟨A, c, rfl, fun hp => ?_⟩
  obtain ⟨b, rfl, hlt, hc⟩ := hA hp
  refine ⟨b, rfl, Nat.lt_of_lt_of_le hlt hb.size, fun i hi => ?_⟩
  obtain ⟨c0, c1, c2, c3, c4⟩ := hc i hi
  exact ⟨(hb.cell (p := ⟨b, i * 5, none⟩) hlt).trans c0, (hb.cell (p := ⟨b, i * 5 + 1, none⟩) hlt).trans c1, (hb.cell (p := ⟨b, i * 5 + 2, none⟩) hlt).trans c2, (hb.cell (p := ⟨b, i * 5 + 3, none⟩) hlt).trans c3, (hb.cell (p := ⟨b, i * 5 + 4, none⟩) hlt).trans c4⟩
def CloneMRes (w w' : World) (ms : List Md) (e : Ending) : Prop := ∃ v', e = .returned v' ∧ w'.ownsRow w.heap.size 32 5 v' ms.length (ms.flatMap Md.cs) ∧ Below w.heap.size w w'
set_option maxHeartbeats 1600000 in
set_option maxRecDepth 100000 in
theorem cloneM (w : World) (b c : Nat) (ms : List Md) (hb : Blk w b (ms.flatMap Md.cs).toArray 32) (hmany : ms.length ≤ 1000) :
    Calls Try.prog 48 #[.slice (some ⟨b, 0, none⟩) ms.length c] w fun e w' => CloneMRes w w' ms e := by
  obtain ⟨i0, hi, hz0, hz1, hz2⟩ := info_parts info32
  have HI := Lib.hid hi
  have HZ0 := Lib.hid hz0
  have HZ1 := Lib.hid hz1
  have HZ2 := Lib.hid hz2
  have HO : Hid ((w.alloc (.cells #[] 32)).ownsRow w.heap.size 32 5 (.slice (some ⟨w.heap.size, 0, none⟩) 0 0) 0 []) := World.ownsRow_lit w #[] 0 (Nat.le_refl _) (by unfold maxLen; omega) rfl
  have HB : Hid (Blk (w.alloc (.cells #[] 32)) b (ms.flatMap Md.cs).toArray 32) := hb.below ((Below.refl _ _).alloc (Nat.le_refl _) _)
  have hlt := hb.lt
  have hnil := fun (w : World) => Lib.run_eql_slice_nil (P := Try.prog) w 27 32 (some ⟨b, 0, none⟩) ms.length c 0 0 Try.underlying27
  have HL := Lib.hid (flat_lenM ms)
  have HV := Lib.hid (flat_oneM ms)
  obtain ⟨n, hn⟩ : ∃ n, n = ms.length := ⟨_, rfl⟩
  rw [← hn] at hmany hnil HL ⊢
  have HN := Lib.hid hn
  clear hi hz0 hz1 hz2 hb hn
  go_enter Try.func48, Try.ntmps48
  go_wp2_with (at_builtin; refine wpList_append_own _ rfl (.tmp 5) (.tmp 6) 27 rfl w.heap.size 32 i0 _ 5 40 Try.underlying27 HI.out HZ0.out HZ1.out HZ2.out rfl (by decide) (.slice (some ⟨w.heap.size, 0, none⟩) 0 0) 0 [] rfl HO.out ⟨b, 0, none⟩ n c (ms.flatMap Md.cs) rfl (by rw [HL.out]) (World.news_of_block HB.out) HV.out (by unfold maxLen; omega) (by omega) (by simp) ?_; intro v' w1 hown hg hn0)
  go_ret
  have h2 : w1.ownsRow w.heap.size 32 5 v' ms.length (ms.flatMap Md.cs) := by rw [← HN.out]; simpa using hown
  exact ⟨v', rfl, h2, ((Below.refl w.heap.size w).alloc (Nat.le_refl _) _).grown hg (by simp) (fun k e => by simp [Value.ownBlock] at e; omega)⟩

def usualV (v : Value) : Value := .agg #[.string ⟨#[116, 105, 108, 116]⟩, .int .i64 16, .int .i64 16, .int .i64 8, .int .i64 4, .int .i64 100, .int .i64 50, .int .i64 20, .int .i64 10, .int .i64 15, .int .i64 30, .int .i64 20, .int .i64 8192, v]
def UsualRes (w w' : World) (ms : List Md) (e : Ending) : Prop := ∃ v', e = .returned (usualV v') ∧ ShowsM w' v' ms ∧ Below w.heap.size w w'
set_option maxHeartbeats 1600000 in
set_option maxRecDepth 100000 in
theorem usual_any (w : World) (b c : Nat) (ms : List Md) (hb : Blk w b (ms.flatMap Md.cs).toArray 32) (hmany : ms.length ≤ 1000) :
    Calls Try.prog 9 #[.slice (some ⟨b, 0, none⟩) ms.length c] w fun e w' => UsualRes w w' ms e := by
  obtain ⟨n, hn⟩ : ∃ n, n = ms.length := ⟨_, rfl⟩
  have HB := Lib.hid hb
  rw [← hn]
  have HN := Lib.hid hn
  have HM := Lib.hid hmany
  clear hb hn hmany
  go_enter Try.func9, Try.ntmps9
  go_wp2_with (go_at_call 48; rw [HN.out]; refine (cloneM _ b c ms (HB.out.below ((Below.refl _ _).alloc (Nat.le_refl _) _)) HM.out).mono ?_; rintro e w' ⟨v', rfl, hv', hb'⟩
               obtain ⟨A', c', rfl, hA'⟩ := own_showsM hv'
               have bR := (show Blk (w.alloc (.cells #[.string ⟨#[]⟩, .int .i64 0, .int .i64 0, .int .i64 0, .int .i64 0, .int .i64 0, .int .i64 0, .int .i64 0, .int .i64 0, .int .i64 0, .int .i64 0, .int .i64 0, .int .i64 0, .slice none 0 0] 29)) w.heap.size _ _ from heap_alloc_new w _).below hb'
               obtain ⟨cR, fR⟩ := blk_rule bR
               have HA' := Lib.hid hv'
               have HB2 := Lib.hid (((Below.refl w.heap.size w).alloc (Nat.le_refl _) _).trans (hb'.mono (by simp)))
               have hlt := bR.lt
               clear hA' hb' bR hv')
  refine bodyPost_ret (v := usualV (.slice A' ms.length c')) ?_ rfl ?_
  · simp [results, Try.results9, go_sem, cR, usualV]
  · refine ⟨_, rfl, ?_, ?_⟩
    · have hne : ∀ k, (Value.slice A' ms.length c').ownBlock = some k → ¬ (fun k => k = w.heap.size) k := by
        intro k e h
        obtain ⟨_, _, h3⟩ := own_blk HA'.out e
        simp at h3; omega
      exact own_showsM (own_kept HA'.out (((((((((((((((Kept.refl w' (fun k => k = w.heap.size)).setCell (fun _ => rfl) _).setCell (fun _ => rfl) _).setCell (fun _ => rfl) _).setCell (fun _ => rfl) _).setCell (fun _ => rfl) _).setCell (fun _ => rfl) _).setCell (fun _ => rfl) _).setCell (fun _ => rfl) _).setCell (fun _ => rfl) _).setCell (fun _ => rfl) _).setCell (fun _ => rfl) _).setCell (fun _ => rfl) _).setCell (fun _ => rfl) _).setCell (fun _ => rfl) _) hne)
    · exact ((((((((((((((HB2.out.setCell (Nat.le_refl _) _).setCell (Nat.le_refl _) _).setCell (Nat.le_refl _) _).setCell (Nat.le_refl _) _).setCell (Nat.le_refl _) _).setCell (Nat.le_refl _) _).setCell (Nat.le_refl _) _).setCell (Nat.le_refl _) _).setCell (Nat.le_refl _) _).setCell (Nat.le_refl _) _).setCell (Nat.le_refl _) _).setCell (Nat.le_refl _) _).setCell (Nat.le_refl _) _).setCell (Nat.le_refl _) _)
end Go.Proofs.Ytlkpmlcmgggifaa
namespace Go.Proofs.Ytlkpmlcmgggifaa
open Go.RowKit
/-- The ticket in its place. -/
def insT (t : Tk) : List Tk → List Tk
  | [] => [t]
  | y :: r => if ordT y t < 0 then y :: insT t r else t :: y :: r
theorem insT_at (t : Tk) : ∀ (ts : List Tk) (k : Nat), k ≤ ts.length → (∀ i, i < k → ordT (ts.getD i Tk.zero) t < 0) → (∀ i, k ≤ i → i < ts.length → 0 ≤ ordT (ts.getD i Tk.zero) t) → insT t ts = ts.take k ++ t :: ts.drop k := by
  intro ts
  induction ts with
  | nil => intro k hk _ _; simp [insT]
  | cons y r ih =>
    intro k hk h1 h2
    cases k with
    | zero =>
      have h0 : 0 ≤ ordT y t := by simpa using h2 0 (by omega) (by simp)
      simp [insT, show ¬ ordT y t < 0 by omega]
    | succ k =>
      have h0 : ordT y t < 0 := by simpa using h1 0 (by omega)
      simp only [insT, if_pos h0]
      rw [ih k (by simpa using hk) (fun i hi => by simpa using h1 (i + 1) (by omega)) (fun i hi hl => by simpa using h2 (i + 1) (by omega) (by simpa using hl))]
      simp
/-- What Put answers. -/
def putCode (ts : List Tk) (sizes : List Int) (t : Tk) : Int :=
  if !rightB t.id || t.pl.any (fun x => !rightB x) then 14
  else if t.mode < 0 ∨ t.mode ≥ sizes.length then 20
  else if t.pl.length = 0 ∨ (t.pl.length : Int) > sizes.getD t.mode.toNat 0 then 21
  else if t.rating < 0 ∨ t.rating > 10000 then 2
  else if (ts.find? (fun y => y.id == t.id)).isSome || doubledB ts t.pl then 11
  else if (ts.filter (fun y => y.mode == t.mode)).length ≥ 16 then 10
  else 0
def PutRes (w w' : World) (base g : Nat) (va vs : Value) (ts : List Tk) (sizes : List Int) (t : Tk) (e : Ending) : Prop :=
  e = .returned (.int .i64 (putCode ts sizes t)) ∧
  (putCode ts sizes t ≠ 0 → Below w.heap.size w w') ∧
  (putCode ts sizes t = 0 → ∃ va' t', t'.key = t.key ∧ QRep w' base g va' vs (insT t' ts) sizes ∧ Kept w w' (fun k => k = g ∨ va.ownBlock = some k) ∧ (∀ k, va'.ownBlock = some k → va.ownBlock = some k ∨ w.heap.size ≤ k) ∧ (∀ k, t'.pv.ownBlock = some k → w.heap.size ≤ k))
theorem got_form {w w' : World} {o : Option Tk} {e : Ending} (h : GotCopy w w' o e) : ∃ id mode A n c rating since, e = .returned (.tuple #[.agg #[.int .u32 id, .int .i64 mode, .slice A n c, .int .i64 rating, .int .i64 since], .bool o.isSome]) ∧ Below w.heap.size w w' := by
  cases o with
  | none => obtain ⟨rfl, hb⟩ := h; exact ⟨0, 0, none, 0, 0, 0, 0, rfl, hb⟩
  | some t =>
    obtain ⟨pv', rfl, ho, hb⟩ := h
    obtain ⟨A, c, rfl, _⟩ := ho.shows.form
    exact ⟨_, _, A, _, c, _, _, rfl, hb⟩
theorem put_err {w w' : World} {base g : Nat} {va vs : Value} {ts : List Tk} {sizes : List Int} {t : Tk} {c : Int} (hc : putCode ts sizes t = c) (hn : c ≠ 0) (hb : Below w.heap.size w w') : PutRes w w' base g va vs ts sizes t (.returned (.int .i64 c)) :=
  ⟨by rw [hc], fun _ => hb, fun h => absurd (hc.symm.trans h) hn⟩
/-- The tickets stand in order. -/
def SortedT (ts : List Tk) : Prop := ts.Pairwise (fun a b => ordT a b < 0)
theorem ordI_neg (a0 a4 b0 b4 : Int) : ordI a0 a4 b0 b4 < 0 ↔ a4 < b4 ∨ (a4 = b4 ∧ a0 < b0) := by
  unfold ordI cmpOr cmpI
  repeat' split
  all_goals omega
theorem ordT_neg (a b : Tk) : ordT a b < 0 ↔ a.since < b.since ∨ (a.since = b.since ∧ a.id < b.id) := ordI_neg _ _ _ _
theorem sorted_mono {ts : List Tk} (h : SortedT ts) (x : Tk) : ∀ i j, i ≤ j → j < ts.length → ordT (ts.getD j Tk.zero) x < 0 → ordT (ts.getD i Tk.zero) x < 0 := by
  intro i j hij hj hx
  by_cases e : i = j
  · subst e; exact hx
  · have h1 := (List.pairwise_iff_getElem.1 h) i j (by omega) hj (by omega)
    have e1 : ts.getD i Tk.zero = ts[i]'(by omega) := by simp [List.getD, show i < ts.length by omega]
    have e2 : ts.getD j Tk.zero = ts[j] := by simp [List.getD, hj]
    rw [e1]; rw [e2] at hx
    rw [ordT_neg] at *
    omega
theorem kept_drewN (w : World) (n : Nat) : Below w.heap.size w (w.drewN n) := below_drewN (Below.refl _ _) n
theorem flat_len (ts : List Tk) : (ts.flatMap Tk.cs).length = ts.length * 5 := by
  induction ts with
  | nil => rfl
  | cons t r ih => rw [List.flatMap_cons, List.length_append, ih, List.length_cons, show t.cs.length = 5 from rfl]; omega
theorem flat_take (ts : List Tk) (k : Nat) (hk : k ≤ ts.length) : (ts.flatMap Tk.cs).take (k * 5) = (ts.take k).flatMap Tk.cs ∧ (ts.flatMap Tk.cs).drop (k * 5) = (ts.drop k).flatMap Tk.cs := by
  have h := List.take_append_drop k ts
  have hl : ((ts.take k).flatMap Tk.cs).length = k * 5 := by rw [flat_len, List.length_take, Nat.min_eq_left hk]
  have e : ts.flatMap Tk.cs = (ts.take k).flatMap Tk.cs ++ (ts.drop k).flatMap Tk.cs := by rw [← List.flatMap_append, h]
  rw [e]
  exact ⟨List.take_left' hl, List.drop_left' hl⟩
theorem flat_one {w : World} {base e : Nat} {ts : List Tk} (h : ∀ t ∈ ts, OwnN w base e .u32 t.pv t.pl) : ∀ u ∈ ts.flatMap Tk.cs, u.oneCell' = true := by
  intro u hu
  obtain ⟨t, ht, hm⟩ := List.mem_flatMap.1 hu
  exact cs_one t (shows_oneCell (h t ht).shows) u hm
theorem insT_len (t : Tk) (ts : List Tk) : (insT t ts).length = ts.length + 1 := by
  induction ts with
  | nil => rfl
  | cons y r ih => simp only [insT]; split <;> simp [ih]
theorem insT_mem (t : Tk) (ts : List Tk) : ∀ y ∈ insT t ts, y = t ∨ y ∈ ts := by
  induction ts with
  | nil => intro y hy; simpa [insT] using hy
  | cons z r ih =>
    intro y hy
    simp only [insT] at hy
    split at hy
    · rcases List.mem_cons.1 hy with rfl | hy
      · exact .inr (by simp)
      · rcases ih y hy with h | h
        · exact .inl h
        · exact .inr (by simp [h])
    · rcases List.mem_cons.1 hy with rfl | hy
      · exact .inl rfl
      · exact .inr hy
def PutDone (w w' : World) (base g : Nat) (va vs : Value) (ts : List Tk) (sizes : List Int) (t : Tk) : Prop :=
  ∃ va' t', t'.key = t.key ∧ QRep w' base g va' vs (insT t' ts) sizes ∧ Kept w w' (fun k => k = g ∨ va.ownBlock = some k) ∧ (∀ k, va'.ownBlock = some k → va.ownBlock = some k ∨ w.heap.size ≤ k) ∧ (∀ k, t'.pv.ownBlock = some k → w.heap.size ≤ k)
def PutTail (w10 : World) (w : World) (base g : Nat) (va vs : Value) (ts : List Tk) (sizes : List Int) (t : Tk) (e : Ending) : Prop :=
  ∃ gg cap, e = .returned (.slice (some ⟨gg, 0, none⟩) (ts.length + 1) cap) ∧ w10.cell? ⟨g, 0, none⟩ = some va ∧ w10.frozen? ⟨g, 0, none⟩ = false ∧ PutDone w (w10.setCell ⟨g, 0, none⟩ (.slice (some ⟨gg, 0, none⟩) (ts.length + 1) cap)) base g va vs ts sizes t
theorem put_tail (w w9 : World) (base g : Nat) (va vs : Value) (ts : List Tk) (sizes : List Int) (t : Tk) (A : Option Addr) (c : Nat) (k : Nat) (hq : QRep w base g va vs ts sizes) (hb : Below w.heap.size w w9) (hown : OwnN w9 w.heap.size 33 .u32 (.slice A t.pl.length c) t.pl) (hf : t.pl.length ≤ 8)
    (hk : k ≤ ts.length) (hk1 : ∀ t', t'.key = t.key → insT t' ts = ts.take k ++ t' :: ts.drop k) (hmany : ts.length ≤ 1000) (hbase : base ≤ w.heap.size) :
    Calls Try.prog 55 #[va, .int .i64 k, .slice (some ⟨w9.heap.size, 0, none⟩) 1 1] (w9.alloc (.cells #[.int .u32 t.id, .int .i64 t.mode, .slice A t.pl.length c, .int .i64 t.rating, .int .i64 t.since] 39)) (fun e w10 => PutTail w10 w base g va vs ts sizes t e) := by
  obtain ⟨t', ht'⟩ : ∃ t' : Tk, t' = ⟨t.id, t.mode, .slice A t.pl.length c, t.pl, t.rating, t.since⟩ := ⟨_, rfl⟩
  have hcs : t'.cs = [.int .u32 t.id, .int .i64 t.mode, .slice A t.pl.length c, .int .i64 t.rating, .int .i64 t.since] := by rw [ht']; rfl
  obtain ⟨W, hW⟩ : ∃ W, W = w9.alloc (.cells #[.int .u32 t.id, .int .i64 t.mode, .slice A t.pl.length c, .int .i64 t.rating, .int .i64 t.since] 39) := ⟨_, rfl⟩
  have hbW : Below w9.heap.size w9 W := by rw [hW]; exact (Below.refl _ _).alloc (Nat.le_refl _) _
  have hbw : Below w.heap.size w W := hb.trans (hbW.mono hb.size)
  have hnb : Blk W w9.heap.size t'.cs.toArray 39 := by rw [hcs, hW]; exact heap_alloc_new w9 _
  rw [← hW]
  have hQ := hq.below hbw
  have hO : OwnN W w.heap.size 33 .u32 t'.pv t'.pl := by rw [ht']; exact own_below hown hbW
  have hkey : t'.key = t.key := by rw [ht']; rfl
  have hne : va.ownBlock ≠ some w9.heap.size := fun e => by
    obtain ⟨cur, h, _⟩ := own_blk (hq.below hb).all e
    exact absurd h.lt (by omega)
  refine (tk_insert W base ts.length k va (ts.flatMap Tk.cs) hQ.all hk (by omega) (Nat.le_trans hbase hbw.size) w9.heap.size t'.cs hnb rfl (cs_one t' (shows_oneCell hO.shows)) (flat_one hQ.pls) hne).mono ?_
  rintro e w10 ⟨v', rfl, hrow, hkept, hfresh⟩
  have hgne : ∀ j, va.ownBlock = some j → j ≠ g := fun j e => own_ne hQ.all hQ.blk (by decide) j e
  have hbk := hQ.blk.kept hkept (fun e => hgne g e rfl)
  have hins := hk1 t' hkey
  have hlist : (ts.flatMap Tk.cs).take (k * 5) ++ t'.cs ++ (ts.flatMap Tk.cs).drop (k * 5) = (insT t' ts).flatMap Tk.cs := by
    rw [hins, (flat_take ts k hk).1, (flat_take ts k hk).2, List.flatMap_append, List.flatMap_cons, List.append_assoc]
  rw [hlist] at hrow
  obtain ⟨gg, cap, rfl⟩ : ∃ gg cap, v' = .slice (some ⟨gg, 0, none⟩) (ts.length + 1) cap := by
    rcases hrow.2 with ⟨_, h0⟩ | ⟨gg, cap, cur, rfl, _⟩
    · omega
    · exact ⟨gg, cap, rfl⟩
  have hS : ∀ (b0 : Nat) (e : Nat) (v : Value) (xs : List Int), OwnN W b0 e .u32 v xs ∨ OwnN W b0 e .i64 v xs → e ≠ 39 → e ≠ 106 → (∀ j, v.ownBlock = some j → va.ownBlock ≠ some j) ∧ (∀ j, v.ownBlock = some j → j ≠ g) := by
    rintro b0 e v xs (h | h) h1 h2
    · refine ⟨fun j hj e2 => ?_, fun j hj => own_ne h hQ.blk h2 j hj⟩
      obtain ⟨c1, b1, _⟩ := own_blk h hj
      obtain ⟨c2, b2, _⟩ := own_blk hQ.all e2
      exact absurd rfl (b1.ne b2 h1)
    · refine ⟨fun j hj e2 => ?_, fun j hj => own_ne h hQ.blk h2 j hj⟩
      obtain ⟨c1, b1, _⟩ := own_blk h hj
      obtain ⟨c2, b2, _⟩ := own_blk hQ.all e2
      exact absurd rfl (b1.ne b2 h1)
  refine ⟨gg, cap, rfl, by have := hbk.cell 0; simpa using this, hbk.frozen 0, .slice (some ⟨gg, 0, none⟩) (ts.length + 1) cap, t', hkey, ⟨?_, hQ.low, ?_, ?_, ?_, ?_⟩, ?_, ?_, ?_⟩
  · exact blk_setCell (cur := [va, vs]) hbk 0 (.slice (some ⟨gg, 0, none⟩) (ts.length + 1) cap)
  · rw [insT_len]
    exact own_setCell hrow (fun j e => own_ne hrow hbk (by decide) j e) _
  · have h1 := hS _ _ _ _ (.inr hQ.szs) (by decide) (by decide)
    exact own_setCell (own_kept hQ.szs hkept h1.1) (fun j e => h1.2 j e) _
  · intro y hy
    rcases insT_mem t' ts y hy with rfl | hy
    · have h1 := hS _ _ _ _ (.inl hO) (by decide) (by decide)
      exact own_mono (own_setCell (own_kept hO hkept h1.1) (fun j e => h1.2 j e) _) hbase
    · have h1 := hS _ _ _ _ (.inl (hQ.pls y hy)) (by decide) (by decide)
      exact own_setCell (own_kept (hQ.pls y hy) hkept h1.1) (fun j e => h1.2 j e) _
  · intro y hy
    rcases insT_mem t' ts y hy with rfl | hy
    · rw [ht']; exact hf
    · exact hq.few y hy
  · exact ((kept_of_below hbw (fun j => j = g ∨ va.ownBlock = some j)).trans hkept (fun j _ h => .inr h)).setCell (fun _ => .inl rfl) _
  · intro j hj
    rcases hfresh j hj with h | h
    · exact .inl h
    · exact .inr (Nat.le_trans hbw.size h)
  · intro j hj
    obtain ⟨_, _, h⟩ := own_blk hO hj
    exact h
theorem insT_key {ts : List Tk} {t : Tk} {k : Nat} (hk : k ≤ ts.length) (h1 : ∀ i, i < k → ordT (ts.getD i Tk.zero) t < 0) (h2 : ∀ i, k ≤ i → i < ts.length → 0 ≤ ordT (ts.getD i Tk.zero) t) (t' : Tk) (hkey : t'.key = t.key) : insT t' ts = ts.take k ++ t' :: ts.drop k := by
  simp only [Tk.key, Prod.mk.injEq] at hkey
  have e : ∀ y, ordT y t' = ordT y t := fun y => by unfold ordT; rw [hkey.1, hkey.2.2.2.2]
  exact insT_at t' ts k hk (fun i hi => by rw [e]; exact h1 i hi) (fun i hi hl => by rw [e]; exact h2 i hi hl)
end Go.Proofs.Ytlkpmlcmgggifaa
namespace Go.Proofs.Ytlkpmlcmgggifaa
open Go.RowKit
set_option maxHeartbeats 8000000 in
set_option maxRecDepth 100000 in
theorem put_some (base g : Nat) (va vs : Value) (ts : List Tk) (sizes : List Int) (t : Tk) (w : World) (hq : QRep w base g va vs ts sizes) (hs : Shows w .u32 t.pv t.pl) (hf : t.pl.length ≤ 8) (hmany : ts.length ≤ 1000) (hsort : SortedT ts) (hbase : base ≤ w.heap.size) :
    Calls Try.prog 10 #[.pointer (some ⟨g, 0, none⟩), .agg #[.int .u32 t.id, .int .i64 t.mode, t.pv, .int .i64 t.rating, .int .i64 t.since]] w fun e w' => PutRes w w' base g va vs ts sizes t e := by
  obtain ⟨PA, pc, hpv, _⟩ := hs.form
  have HS : Hid (Shows w .u32 (.slice PA t.pl.length pc) t.pl) := by rw [← hpv]; exact hs
  rw [hpv]
  obtain ⟨SA, sc, rfl, hsz⟩ : ∃ SA sc, vs = .slice SA sizes.length sc ∧ ∀ m, m < sizes.length → ∃ gS, SA = some ⟨gS, 0, none⟩ ∧ gS < w.heap.size ∧ w.cell? ⟨gS, m, none⟩ = some (.int .i64 (sizes.getD m 0)) := by
    rcases hq.szs.2 with ⟨rfl, h0⟩ | ⟨gS, cap, cur, rfl, _, hgg, _⟩
    · exact ⟨none, 0, by rw [h0], fun m hm => by omega⟩
    · have h1 : w.ownsRow base 3 1 (.slice (some ⟨gS, 0, none⟩) sizes.length cap) sizes.length (sizes.map (Value.int .i64)) := hq.szs
      refine ⟨_, cap, rfl, fun m hm => ⟨gS, rfl, (Array.getElem?_eq_some_iff.1 hgg).1, ?_⟩⟩
      rw [h1.cellAt m (by omega)]
      simp [hm]
  have HSZ := Lib.hid hsz
  clear hsz
  have hgq := hq.blk.cell 1
  simp only [List.getElem?_toArray, List.getElem?_cons_zero, List.getElem?_cons_succ] at hgq
  have HGQ := Lib.hid hgq
  have HQ := Lib.hid hq
  have hglt := hq.lt
  have HF := Lib.hid hf
  have HSO := Lib.hid hsort
  have HBA := Lib.hid hbase
  have hnot : ∀ (x : Bool) (w : World), (Op.unary .not (.bool x)).run Try.prog w = .ok (.bool (!x)) w := fun _ _ => rfl
  obtain ⟨B, hB⟩ : ∃ B, B = w.heap.size := ⟨_, rfl⟩
  obtain ⟨W0, hW0⟩ : ∃ W0, W0 = w.alloc (.cells #[.int .u32 t.id, .int .i64 t.mode, .slice PA t.pl.length pc, .int .i64 t.rating, .int .i64 t.since] 39) := ⟨_, rfl⟩
  have HB0 : Hid (Below B w W0) := by rw [hW0, hB]; exact (Below.refl _ _).alloc (Nat.le_refl _) _
  have HT0 : Hid (Blk W0 B #[.int .u32 t.id, .int .i64 t.mode, .slice PA t.pl.length pc, .int .i64 t.rating, .int .i64 t.since] 39) := by rw [hW0, hB]; exact heap_alloc_new w _
  have HW0 := Lib.hid hW0
  have HBE := Lib.hid hB
  clear hq hs hf hsort hbase hW0 hB hgq
  obtain ⟨o, ho⟩ : ∃ o, o = ts.find? (fun y => y.id == t.id) := ⟨_, rfl⟩
  have HO := Lib.hid ho
  clear ho
  go_enter Try.func10, Try.ntmps10
  go_wp2_with fail
  rw [← HW0.out, ← HBE.out]
  refine (get_some base g va _ ts sizes t.id W0 (HQ.out.below (by rw [← HBE.out]; exact HB0.out))).mono ?_
  intro e w1 hgot
  obtain ⟨gi, gm, gA, gn, gc, gr, gs, rfl, hb1⟩ := got_form hgot
  have HT1 := Lib.hid (HT0.out.below hb1)
  have HB1 := Lib.hid (HB0.out.trans (hb1.mono (by have := HT0.out.lt; omega)))
  clear hgot hb1
  have HB1a := Lib.hid (HB1.out.alloc (by have := HT1.out.lt; omega) (.cells #[.int .u32 gi, .int .i64 gm, .slice gA gn gc, .int .i64 gr, .int .i64 gs] 39))
  have HT1a := Lib.hid (HT1.out.below ((Below.refl _ _).alloc (Nat.le_refl _) (.cells #[.int .u32 gi, .int .i64 gm, .slice gA gn gc, .int .i64 gr, .int .i64 gs] 39)))
  obtain ⟨c1, f1⟩ := blk_rule HT1.out
  have hl1 := HT1.out.lt
  rw [← HO.out]
  obtain ⟨is, hise⟩ : ∃ is, is = o.isSome := ⟨_, rfl⟩
  rw [← hise]
  have HIS : Hid (o.isSome = is) := hise.symm
  clear hise
  go_wp2_with fail
  obtain ⟨w2, hw2⟩ : ∃ w2, w2 = w1.alloc (.cells #[.int .u32 gi, .int .i64 gm, .slice gA gn gc, .int .i64 gr, .int .i64 gs] 39) := ⟨_, rfl⟩
  rw [← hw2]
  have HB2 : Hid (Below w.heap.size w w2) := by rw [hw2, ← HBE.out]; exact HB1a.out
  have HT2 : Hid (Blk w2 B #[.int .u32 t.id, .int .i64 t.mode, .slice PA t.pl.length pc, .int .i64 t.rating, .int .i64 t.since] 39) := by rw [hw2]; exact HT1a.out
  clear hw2 c1 f1 hl1 HB1 HB1a HT1 HT1a HT0 HB0 HW0
  obtain ⟨c2, f2⟩ := blk_rule HT2.out
  have HQ2 := Lib.hid (HQ.out.below HB2.out)
  have HS2 := Lib.hid (HS.out.below HB2.out)
  cases hr : rightB t.id with
  | false =>
    have hcode := Lib.hid (show putCode ts sizes t = 14 by simp [putCode, hr])
    go_wp2_with (go_at_call 49; refine (right_any _ _).mono ?_; rintro e w' ⟨rfl, rfl⟩; rw [hr])
    go_ret
    exact put_err hcode.out (by decide) HB2.out
  | true =>
    have hasks : ∀ W x, Below w2.heap.size w2 W → x ∈ t.pl → Calls Try.prog 51 (#[.int .u32 x] ++ #[]) W fun e w' => e = .returned (.bool (!rightB x)) ∧ Below w2.heap.size w2 w' := fun W x hW _ => (notRight_any x W).mono (fun e w' ⟨he, hw⟩ => ⟨he, hw ▸ hW⟩)
    have HASK := Lib.hid hasks
    clear hasks
    have ea := enters_of Try.func51 (by kernel_rfl) rfl
    obtain ⟨anyNot, hany⟩ : ∃ b, b = t.pl.any (fun x => !rightB x) := ⟨_, rfl⟩
    have HANY := Lib.hid hany
    clear hany
    cases han : anyNot with
    | true =>
      have hcode := Lib.hid (show putCode ts sizes t = 14 by simp only [putCode, ← HANY.out, han]; simp)
      go_wp2_with (first
        | (go_at_call 49; refine (right_any _ _).mono ?_; rintro e w' ⟨rfl, rfl⟩; rw [hr])
        | (go_at_call 50; refine (containsFunc32 (fun x => !rightB x) 51 #[] ea _ t.pl _ HS2.out HASK.out).mono ?_; rintro e w3 ⟨rfl, hb3⟩; rw [← HANY.out, han]))
      go_ret
      exact put_err hcode.out (by decide) (HB2.out.trans (hb3.mono HB2.out.size))
    | false =>
      go_wp2_with (first
        | (go_at_call 49; refine (right_any _ _).mono ?_; rintro e w' ⟨rfl, rfl⟩; rw [hr])
        | (go_at_call 50; refine (containsFunc32 (fun x => !rightB x) 51 #[] ea _ t.pl _ HS2.out HASK.out).mono ?_; rintro e w3 ⟨rfl, hb3⟩; rw [← HANY.out, han]))
      have HB3 := Lib.hid (HB2.out.trans (hb3.mono HB2.out.size))
      have HT3 := Lib.hid (HT2.out.below hb3)
      clear hb3 HT2 c2 f2 HS2 HQ2 HASK
      obtain ⟨c3, f3⟩ := blk_rule HT3.out
      have hg3 := (HB3.out.cell (p := ⟨g, 1, none⟩) hglt).trans HGQ.out
      have mixed : Try.prog.follows .mixedOrders = true := by kernel_rfl
      have hr14 : Hid ((!rightB t.id || t.pl.any (fun x => !rightB x)) = false) := by show _ = _; rw [← HANY.out, han, hr]; rfl
      obtain ⟨L, hL⟩ : ∃ L, L = sizes.length := ⟨_, rfl⟩
      rw [← hL] at hg3
      have HLL := Lib.hid hL
      clear hL
      by_cases hm0 : t.mode < 0
      · have hcode := Lib.hid (show putCode ts sizes t = 20 by unfold putCode; rw [hr14.out]; simp [hm0])
        have hd : decide (t.mode < 0) = true := by simpa using hm0
        go_quiet (fail)
        go_wp2
        go_ret
        exact put_err hcode.out (by decide) (below_drewN HB3.out _)
      · by_cases hmL : (L : Int) ≤ t.mode
        · have hcode := Lib.hid (show putCode ts sizes t = 20 by unfold putCode; rw [hr14.out, ← HLL.out]; simp [hmL])
          have hd : decide (t.mode < 0) = false := by simpa using hm0
          have hd2 : decide ((L : Int) ≤ t.mode) = true := by simpa using hmL
          go_quiet (fail)
          go_wp2
          go_ret
          exact put_err hcode.out (by decide) (below_drewN HB3.out _)
        · have hd : decide (t.mode < 0) = false := by simpa using hm0
          have hd2 : decide ((L : Int) ≤ t.mode) = false := by simpa using hmL
          go_quiet (fail)
          have hkd := kept_drewN w3 nq
          obtain ⟨w4, hw4⟩ : ∃ w4, w4 = w3.drewN nq := ⟨_, rfl⟩
          rw [← hw4] at hkd ⊢
          have HB4 := Lib.hid (HB3.out.trans (hkd.mono (HB3.out.size)))
          have HT4 := Lib.hid (HT3.out.below hkd)
          have hg4 := (HB4.out.cell (p := ⟨g, 1, none⟩) hglt).trans HGQ.out
          rw [← HLL.out] at hg4
          clear hw4 hkd c3 f3 hg3 HT3 HB3
          obtain ⟨c4, f4⟩ := blk_rule HT4.out
          go_wp2_with fail
          obtain ⟨gS, rfl, hgS, hcS⟩ := HSZ.out t.mode.toNat (by rw [← HLL.out]; omega)
          have hs4 := (HB4.out.cell (p := ⟨gS, t.mode.toNat, none⟩) hgS).trans hcS
          clear hcS
          obtain ⟨K, hK⟩ : ∃ K, K = sizes.getD t.mode.toNat 0 := ⟨_, rfl⟩
          rw [← hK] at hs4
          have HK := Lib.hid hK
          clear hK
          have hm0' : 0 ≤ t.mode := by omega
          have hmL' : t.mode < (L : Int) := by omega
          have hr20 : Hid (¬ (t.mode < 0 ∨ t.mode ≥ (sizes.length : Int))) := by show ¬ _; rw [← HLL.out]; omega
          obtain ⟨n, hn⟩ : ∃ n, n = t.pl.length := ⟨_, rfl⟩
          rw [← hn] at c4 ⊢
          have HN := Lib.hid hn
          clear hn
          by_cases hn0 : n = 0
          · have hcode := Lib.hid (show putCode ts sizes t = 21 by unfold putCode; rw [hr14.out, if_neg (by decide), if_neg hr20.out, if_pos (.inl (by rw [← HN.out]; exact hn0))])
            have hd3 : ((n : Int) == 0) = true := by simpa using hn0
            go_quiet (fail)
            go_wp2
            go_ret
            exact put_err hcode.out (by decide) (below_drewN HB4.out _)
          · have hd3 : ((n : Int) == 0) = false := by simpa using hn0
            have hnp : ¬ ((n : Int) = 0) := by omega
            by_cases hnK : K < (n : Int)
            · have hcode := Lib.hid (show putCode ts sizes t = 21 by unfold putCode; rw [hr14.out, if_neg (by decide), if_neg hr20.out, if_pos (.inr (by rw [← HN.out, ← HK.out]; exact hnK))])
              have hd4 : decide (K < (n : Int)) = true := by simpa using hnK
              go_quiet (fail)
              go_wp2
              go_ret
              exact put_err hcode.out (by decide) (below_drewN HB4.out _)
            · have hd4 : decide (K < (n : Int)) = false := by simpa using hnK
              have hr21 : Hid (¬ (t.pl.length = 0 ∨ (t.pl.length : Int) > sizes.getD t.mode.toNat 0)) := by show ¬ _; rw [← HN.out, ← HK.out]; omega
              go_quiet (fail)
              have hkd := kept_drewN w4 nq
              obtain ⟨w5, hw5⟩ : ∃ w5, w5 = w4.drewN nq := ⟨_, rfl⟩
              rw [← hw5] at hkd ⊢
              have HB5 := Lib.hid (HB4.out.trans (hkd.mono (HB4.out.size)))
              have HT5 := Lib.hid (HT4.out.below hkd)
              clear hw5 hkd c4 f4 hg4 HT4 HB4 hs4
              obtain ⟨c5, f5⟩ := blk_rule HT5.out
              rw [← HN.out] at c5
              by_cases hrt0 : t.rating < 0
              · have hcode := Lib.hid (show putCode ts sizes t = 2 by unfold putCode; rw [hr14.out, if_neg (by decide), if_neg hr20.out, if_neg hr21.out, if_pos (.inl hrt0)])
                go_wp2
                go_ret
                exact put_err hcode.out (by decide) HB5.out
              · by_cases hrt1 : 10000 < t.rating
                · have hcode := Lib.hid (show putCode ts sizes t = 2 by unfold putCode; rw [hr14.out, if_neg (by decide), if_neg hr20.out, if_neg hr21.out, if_pos (.inr hrt1)])
                  go_wp2
                  go_ret
                  exact put_err hcode.out (by decide) HB5.out
                · have hr2 : Hid (¬ (t.rating < 0 ∨ t.rating > 10000)) := by show ¬ _; omega
                  have HS5 : Hid (Shows w5 .u32 (.slice PA n pc) t.pl) := by rw [HN.out]; exact HS.out.below HB5.out
                  have HQ5 := Lib.hid (HQ.out.below HB5.out)
                  cases his : is with
                  | true =>
                    have hcode := Lib.hid (show putCode ts sizes t = 11 by unfold putCode; rw [hr14.out, if_neg (by decide), if_neg hr20.out, if_neg hr21.out, if_neg hr2.out, ← HO.out, HIS.out, his, Bool.true_or, if_pos rfl])
                    go_wp2
                    go_ret
                    exact put_err hcode.out (by decide) HB5.out
                  | false =>
                    go_wp2_with fail
                    refine (doubled_any base g va _ ts sizes _ t.pl w5 HQ5.out HS5.out).mono ?_
                    rintro e w6 ⟨rfl, hb6⟩
                    have HB6 := Lib.hid (HB5.out.trans (hb6.mono HB5.out.size))
                    have HT6 := Lib.hid (HT5.out.below hb6)
                    obtain ⟨db, hdb⟩ : ∃ db, db = doubledB ts t.pl := ⟨_, rfl⟩
                    rw [← hdb]
                    have HDB := Lib.hid hdb
                    clear hb6 hdb c5 f5 HT5 HB5 HQ5 HS5
                    cases hdt : db with
                    | true =>
                      have hcode := Lib.hid (show putCode ts sizes t = 11 by unfold putCode; rw [hr14.out, if_neg (by decide), if_neg hr20.out, if_neg hr21.out, if_neg hr2.out, ← HDB.out, hdt, Bool.or_true, if_pos rfl])
                      go_wp2
                      go_ret
                      exact put_err hcode.out (by decide) HB6.out
                    | false =>
                      have hr11 : Hid (((ts.find? (fun y => y.id == t.id)).isSome || doubledB ts t.pl) = false) := by show _ = _; rw [← HO.out, HIS.out, his, ← HDB.out, hdt]; rfl
                      obtain ⟨c6, f6⟩ := blk_rule HT6.out
                      rw [← HN.out] at c6
                      go_wp2_with fail
                      refine (mode_some base g va _ ts sizes t.mode w6 (HQ.out.below HB6.out) hmany).mono ?_
                      rintro e w7 ⟨v7, ts7, rfl, hor, hkeys, hb7⟩
                      obtain ⟨A7, c7', rfl⟩ : ∃ A c, v7 = .slice A ts7.length c := by
                        rcases own_trow hor.row with ⟨rfl, rfl⟩ | ⟨b, c, rfl, _⟩
                        · exact ⟨none, 0, rfl⟩
                        · exact ⟨_, c, rfl⟩
                      have HLen : Hid (ts7.length = (ts.filter (fun y => y.mode == t.mode)).length) := by have := congrArg List.length hkeys; show _ = _; simpa using this
                      have HB7 := Lib.hid (HB6.out.trans (hb7.mono HB6.out.size))
                      have HT7 := Lib.hid (HT6.out.below hb7)
                      clear hor hkeys hb7 c6 f6 HT6 HB6
                      obtain ⟨m7, hm7⟩ : ∃ m, m = ts7.length := ⟨_, rfl⟩
                      rw [← hm7]
                      have HM7 := Lib.hid hm7
                      clear hm7
                      by_cases h16 : 16 ≤ m7
                      · have hcode := Lib.hid (show putCode ts sizes t = 10 by unfold putCode; rw [hr14.out, if_neg (by decide), if_neg hr20.out, if_neg hr21.out, if_neg hr2.out, hr11.out, if_neg (by decide), if_pos (by rw [← HLen.out, ← HM7.out]; exact h16)])
                        have h16' : (16 : Int) ≤ (m7 : Int) := by omega
                        go_wp2
                        go_ret
                        exact put_err hcode.out (by decide) HB7.out
                      · have hcode := Lib.hid (show putCode ts sizes t = 0 by unfold putCode; rw [hr14.out, if_neg (by decide), if_neg hr20.out, if_neg hr21.out, if_neg hr2.out, hr11.out, if_neg (by decide), if_neg (by rw [← HLen.out, ← HM7.out]; omega)])
                        have h16' : ¬ ((16 : Int) ≤ (m7 : Int)) := by omega
                        go_wp2_with fail
                        have HQ7 := Lib.hid (HQ.out.below HB7.out)
                        have hq7 := HQ7.out.blk.cell 0
                        simp only [List.getElem?_toArray, List.getElem?_cons_zero] at hq7
                        have hlg7 := HQ7.out.lt
                        have hlB7 := HT7.out.lt
                        have d0 := HT7.out.cell 0
                        have d1 := HT7.out.cell 1
                        have d2 := HT7.out.cell 2
                        have d3 := HT7.out.cell 3
                        have d4 := HT7.out.cell 4
                        simp only [List.getElem?_toArray, List.getElem?_cons_zero, List.getElem?_cons_succ] at d0 d1 d2 d3 d4
                        rw [← HN.out] at d2
                        have HPL : Hid (∀ y ∈ ts, ∃ A m c', y.pv = .slice A m c') := fun y hy => by obtain ⟨A, c, h, _⟩ := (HQ.out.pls y hy).shows.form; exact ⟨A, _, c, h⟩
                        have HSE : Hid (Calls Try.prog 53 #[va, .agg #[.int .u32 t.id, .int .i64 t.mode, .slice PA n pc, .int .i64 t.rating, .int .i64 t.since], .func (.func 54) #[] #[]] w7.drew (fun e w' => SearchRes w7.drew w' ts.length (fun i => ordT (ts.getD i Tk.zero) t) e)) :=
                          search_any base _ va ts ⟨t.id, t.mode, .slice PA n pc, t.pl, t.rating, t.since⟩ w7.drew hmany HQ7.out.all HPL.out ⟨_, _, _, rfl⟩ (sorted_mono HSO.out ⟨t.id, t.mode, .slice PA n pc, t.pl, t.rating, t.since⟩)
                        go_region_held3 (fun w' => w'.cell? ⟨g, 0, none⟩ = some va ∧ w'.cell? ⟨B, 0, none⟩ = some (.int .u32 t.id) ∧ w'.cell? ⟨B, 1, none⟩ = some (.int .i64 t.mode) ∧ w'.cell? ⟨B, 2, none⟩ = some (.slice PA n pc) ∧ w'.cell? ⟨B, 3, none⟩ = some (.int .i64 t.rating) ∧ w'.cell? ⟨B, 4, none⟩ = some (.int .i64 t.since))
                          (first | go_keep | exact ⟨(hb8.cell (p := ⟨g, 0, none⟩) hlg7).trans hq7, (hb8.cell (p := ⟨B, 0, none⟩) hlB7).trans d0, (hb8.cell (p := ⟨B, 1, none⟩) hlB7).trans d1, (hb8.cell (p := ⟨B, 2, none⟩) hlB7).trans d2, (hb8.cell (p := ⟨B, 3, none⟩) hlB7).trans d3, (hb8.cell (p := ⟨B, 4, none⟩) hlB7).trans d4⟩)
                          (first | (go_at_call 53; refine HSE.out.mono ?_; rintro e w8 ⟨k, found, rfl, hkn, hk1, hk2, hk3, hb8⟩))
                        have HB8 := Lib.hid (HB7.out.drew.trans (hb8.mono HB7.out.size))
                        have HT8 := Lib.hid ((show Blk w7.drew _ _ _ from HT7.out).below hb8)
                        have HK := Lib.hid (show k ≤ ts.length ∧ ∀ t' : Tk, t'.key = t.key → insT t' ts = ts.take k ++ t' :: ts.drop k from ⟨hkn, fun t' h => insT_key hkn hk1 hk2 t' h⟩)
                        clear hq7 hlg7 hlB7 d0 d1 d2 d3 d4 HSE hkn hk1 hk2 hk3 hb8 HB7 HT7 HQ7
                        have HQ8 := Lib.hid (HQ.out.below HB8.out)
                        have hq8 := HQ8.out.blk.cell 0
                        simp only [List.getElem?_toArray, List.getElem?_cons_zero] at hq8
                        have hlg8 := HQ8.out.lt
                        have hlB8 := HT8.out.lt
                        have d0 := HT8.out.cell 0
                        have d1 := HT8.out.cell 1
                        have d2 := HT8.out.cell 2
                        have d3 := HT8.out.cell 3
                        have d4 := HT8.out.cell 4
                        simp only [List.getElem?_toArray, List.getElem?_cons_zero, List.getElem?_cons_succ] at d0 d1 d2 d3 d4
                        rw [← HN.out] at d2
                        have HQD : Hid (QRep w8.drew base g va _ ts sizes) := HQ8.out.below ((Below.refl _ _).drew)
                        have HBD : Hid (base ≤ w8.drew.heap.size) := Nat.le_trans HBA.out HB8.out.size
                        have HOW : Hid (Calls Try.prog 56 #[.agg #[.int .u32 t.id, .int .i64 t.mode, .slice PA n pc, .int .i64 t.rating, .int .i64 t.since]] w8.drew fun e w' => Copied w8.drew w' t.pl e t.id t.mode t.rating t.since) :=
                          own_any t.id t.mode t.rating t.since (.slice PA n pc) t.pl w8.drew (by rw [HN.out]; exact HS.out.below HB8.out.drew) HF.out
                        go_wp2_with fail
                        go_region_law (first | (go_simp; go_at_call 56; refine HOW.out.mono ?_; rintro e w9 ⟨pv', rfl, hown, hb9⟩; obtain ⟨A9, c9, rfl, _⟩ := hown.shows.form; have q9 := (hb9.cell (p := ⟨g, 0, none⟩) hlg8).trans hq8; have l9 : g < w9.heap.size := Nat.lt_of_lt_of_le hlg8 hb9.size) | (go_simp; go_at_call 55; refine (put_tail w8.drew w9 base g va _ ts sizes t A9 c9 k HQD.out hb9 hown HF.out HK.out.1 HK.out.2 hmany HBD.out).mono ?_; rintro e w10 ⟨gg, cap, rfl, q10, f10, hdone⟩))
                        all_goals
                          obtain ⟨va', t', hkey, hqr, hkp, hfr, hfr2⟩ := hdone
                          have HD := Lib.hid (show ∃ va' t', t'.key = t.key ∧ QRep _ base g va' _ (insT t' ts) sizes ∧ Kept w _ (fun k => k = g ∨ va.ownBlock = some k) ∧ (∀ k, va'.ownBlock = some k → va.ownBlock = some k ∨ w.heap.size ≤ k) ∧ (∀ k, t'.pv.ownBlock = some k → w.heap.size ≤ k) from
                            ⟨va', t', hkey, hqr, (kept_of_below HB8.out.drew (fun k => k = g ∨ va.ownBlock = some k)).trans hkp (fun j _ h => h), fun j hj => (hfr j hj).imp id (fun h => Nat.le_trans HB8.out.size h), fun j hj => Nat.le_trans HB8.out.size (hfr2 j hj)⟩)
                          clear hkey hqr hkp hfr hfr2 q10 f10 hown hb9
                          go_wp2
                          go_ret
                          exact ⟨by rw [hcode.out]; rfl, fun h => absurd hcode.out h, fun _ => HD.out⟩
end Go.Proofs.Ytlkpmlcmgggifaa
namespace Go.Proofs.Ytlkpmlcmgggifaa
open Go.RowKit
theorem del_cells (ts : List Tk) (k : Nat) (hk : k < ts.length) : (ts.flatMap Tk.cs).take (k * 5) ++ (ts.flatMap Tk.cs).drop ((k + 1) * 5) = (ts.eraseIdx k).flatMap Tk.cs := by
  rw [(flat_take ts k (by omega)).1, (flat_take ts (k + 1) (by omega)).2, List.eraseIdx_eq_take_drop_succ, List.flatMap_append]
def DropDone (w w' : World) (base g : Nat) (va vs : Value) (ts : List Tk) (sizes : List Int) (k : Nat) : Prop :=
  ∃ va', QRep w' base g va' vs (ts.eraseIdx k) sizes ∧ Kept w w' (fun j => j = g ∨ va.ownBlock = some j) ∧ va'.ownBlock = va.ownBlock
def DropTail (w1 w : World) (base g : Nat) (va vs : Value) (ts : List Tk) (sizes : List Int) (k : Nat) (e : Ending) : Prop :=
  ∃ A c, e = .returned (.slice A (ts.length - 1) c) ∧ w1.cell? ⟨g, 0, none⟩ = some va ∧ w1.frozen? ⟨g, 0, none⟩ = false ∧ Kept w w1 (fun j => va.ownBlock = some j) ∧ DropDone w (w1.setCell ⟨g, 0, none⟩ (.slice A (ts.length - 1) c)) base g va vs ts sizes k
theorem drop_tail (w : World) (base g : Nat) (va vs : Value) (ts : List Tk) (sizes : List Int) (k : Nat) (hQ : QRep w base g va vs ts sizes) (hk : k < ts.length) :
    Calls Try.prog 64 #[va, .int .i64 k, .int .i64 ((k : Int) + 1)] w (fun e w1 => DropTail w1 w base g va vs ts sizes k e) := by
  rw [show (k : Int) + 1 = ((k + 1 : Nat) : Int) by omega]
  refine (tk_delete w base ts.length k va (ts.flatMap Tk.cs) hQ.all hk (flat_one hQ.pls)).mono ?_
  rintro e w1 ⟨v', rfl, hrow, hkept, hsame⟩
  have hgne : ∀ j, va.ownBlock = some j → j ≠ g := fun j e => own_ne hQ.all hQ.blk (by decide) j e
  have hbk := hQ.blk.kept hkept (fun e => hgne g e rfl)
  rw [del_cells ts k hk] at hrow
  have hlen : (ts.eraseIdx k).length = ts.length - 1 := by rw [List.length_eraseIdx_of_lt hk]
  rw [← hlen] at hrow
  obtain ⟨A, c, rfl⟩ : ∃ A c, v' = .slice A (ts.length - 1) c := by
    rcases own_trow hrow with ⟨rfl, h0⟩ | ⟨b, c, rfl, _⟩
    · exact ⟨none, 0, by rw [← hlen, h0]; rfl⟩
    · exact ⟨_, c, by rw [hlen]⟩
  have hS : ∀ (e : Nat) (v : Value) (n : Nat) (xs : List Value), w.ownsRow base e 1 v n xs → e ≠ 39 → e ≠ 106 → (∀ j, v.ownBlock = some j → va.ownBlock ≠ some j) ∧ (∀ j, v.ownBlock = some j → j ≠ g) := by
    intro e v n xs h h1 h2
    refine ⟨fun j hj e2 => ?_, fun j hj => own_ne h hQ.blk h2 j hj⟩
    obtain ⟨c1, b1, _⟩ := own_blk h hj
    obtain ⟨c2, b2, _⟩ := own_blk hQ.all e2
    exact absurd rfl (b1.ne b2 h1)
  refine ⟨A, c, rfl, by have := hbk.cell 0; simpa using this, hbk.frozen 0, hkept, .slice A (ts.length - 1) c, ⟨?_, hQ.low, ?_, ?_, ?_, ?_⟩, ?_, hsame⟩
  · exact blk_setCell (cur := [va, vs]) hbk 0 (.slice A (ts.length - 1) c)
  · exact own_setCell hrow (fun j e => own_ne hrow hbk (by decide) j e) _
  · have h1 := hS _ _ _ _ hQ.szs (by decide) (by decide)
    exact own_setCell (own_kept hQ.szs hkept h1.1) (fun j e => h1.2 j e) _
  · intro y hy
    have h1 := hS _ _ _ _ (hQ.pls y (List.mem_of_mem_eraseIdx hy)) (by decide) (by decide)
    exact own_setCell (own_kept (hQ.pls y (List.mem_of_mem_eraseIdx hy)) hkept h1.1) (fun j e => h1.2 j e) _
  · exact fun y hy => hQ.few y (List.mem_of_mem_eraseIdx hy)
  · exact (hkept.mono (fun j _ h => .inr h)).setCell (fun _ => .inl rfl) _
theorem own_lt {w : World} {base : Nat} {e : TypeId} {size : Nat} {v : Value} {n : Nat} {xs : List Value} (h : w.ownsRow base e size v n xs) {k : Nat} (hk : v.ownBlock = some k) : k < w.heap.size := by
  obtain ⟨cur, h1, _⟩ := own_blk h hk
  exact h1.lt
theorem DropDone.setCell {w w' : World} {base g : Nat} {va vs : Value} {ts : List Tk} {sizes : List Int} {k : Nat} (hQ : QRep w base g va vs ts sizes) (h : DropDone w w' base g va vs ts sizes k) {a : Addr} (ha : w.heap.size ≤ a.block) (u : Value) : DropDone w (w'.setCell a u) base g va vs ts sizes k := by
  obtain ⟨va', q, hk, hs⟩ := h
  have hkk : Kept w' (w'.setCell a u) (fun j => j = a.block) := Kept.setCell (S := fun j => j = a.block) (Kept.refl _ _) (fun _ => rfl) u
  refine ⟨va', ⟨q.blk.kept hkk ?_, q.low, own_kept q.all hkk ?_, own_kept q.szs hkk ?_, ?_, q.few⟩, hk.setCell (fun h => absurd h (by omega)) u, hs⟩
  · have := hQ.lt; omega
  · intro j hj; rw [hs] at hj; have := own_lt hQ.all hj; omega
  · intro j hj; have := own_lt hQ.szs hj; omega
  · intro y hy
    refine own_kept (q.pls y hy) hkk ?_
    intro j hj; have := own_lt (hQ.pls y (List.mem_of_mem_eraseIdx hy)) hj; omega
/-- Drop's answer. -/
def DropRes (w w' : World) (base g : Nat) (va vs : Value) (ts : List Tk) (sizes : List Int) (x : Int) (e : Ending) : Prop :=
  (ts.find? (fun t => t.id == x) = none ∧ e = .returned (.tuple #[.agg #[.int .u32 0, .int .i64 0, .slice none 0 0, .int .i64 0, .int .i64 0], .bool false]) ∧ Below w.heap.size w w') ∨
  ∃ k, k < ts.length ∧ ts.find? (fun t => t.id == x) = some (ts.getD k Tk.zero) ∧ idxBy (fun t => t.id == x) ts 0 = k ∧ e = .returned (.tuple #[.agg #[.int .u32 (ts.getD k Tk.zero).id, .int .i64 (ts.getD k Tk.zero).mode, (ts.getD k Tk.zero).pv, .int .i64 (ts.getD k Tk.zero).rating, .int .i64 (ts.getD k Tk.zero).since], .bool true]) ∧ DropDone w w' base g va vs ts sizes k
set_option maxHeartbeats 1600000 in
set_option maxRecDepth 100000 in
theorem drop_some (base g : Nat) (va vs : Value) (ts : List Tk) (sizes : List Int) (x : Int) (w : World) (hq : QRep w base g va vs ts sizes) :
    Calls Try.prog 18 #[.pointer (some ⟨g, 0, none⟩), .int .u32 x] w fun e w' => DropRes w w' base g va vs ts sizes x e := by
  have hlt := hq.lt
  obtain ⟨W0, hW0⟩ : ∃ W0, W0 = (w.alloc (.cells #[.int .u32 x] 33)).alloc (.cells #[.int .u32 0, .int .i64 0, .slice none 0 0, .int .i64 0, .int .i64 0] 39) := ⟨_, rfl⟩
  have hB0 : Below w.heap.size w W0 := by rw [hW0]; exact below_two w _ _
  obtain ⟨bX, bR⟩ := two_blk w #[.int .u32 x] #[.int .u32 0, .int .i64 0, .slice none 0 0, .int .i64 0, .int .i64 0] 33 39
  rw [← hW0] at bX bR
  have HQ : Hid (QRep W0 base g va vs ts sizes) := hq.below hB0
  have ea := enters_of Try.func63 (by kernel_rfl) rfl
  have hmf : ∀ (fn : Fn) (first cap : Array Value) (w : World), (Instr.makeFunc fn first cap).run Try.prog w = .ok (.func fn first cap) w := fun _ _ _ _ => rfl
  have HA : Hid (Asks W0 63 #[.pointer (some ⟨w.heap.size, 0, none⟩)] ts (fun t => t.id == x)) := id_asks_drop _ base ts w.heap.size x bX.lt (bX.cell 0) HQ.out.pls
  have HB0 := Lib.hid hB0
  have HR := Lib.hid bR
  have HW0 := Lib.hid hW0
  clear bX bR hB0 hW0
  rcases idxBy_find Tk.zero (fun t => t.id == x) ts with ⟨h1, h2⟩ | ⟨k, h0, h1, h2⟩
  · have H1 := Lib.hid h1
    have H2 := Lib.hid h2
    clear h1 h2 hq
    go_enter Try.func18, Try.ntmps18
    go_wp2_with (go_at_call 60; rw [← HW0.out]; refine (at_some (fun t => t.id == x) 63 _ ea base g va vs ts sizes _ HQ.out HA.out).mono ?_; rintro e w' ⟨rfl, hb'⟩; rw [H1.out]; obtain ⟨cR, fR⟩ := blk_rule (HR.out.below hb'); have HB := Lib.hid (HB0.out.trans (hb'.mono HB0.out.size)); clear hb')
    refine bodyPost_ret (v := .tuple #[.agg #[.int .u32 0, .int .i64 0, .slice none 0 0, .int .i64 0, .int .i64 0], .bool false]) ?_ rfl ?_
    · simp [results, Try.results18, go_sem, cR]
    · exact .inl ⟨H2.out, rfl, ((((HB.out.setCell (by simp) _).setCell (by simp) _).setCell (by simp) _).setCell (by simp) _).setCell (by simp) _⟩
  · obtain ⟨t, htd⟩ : ∃ t, t = ts.getD k Tk.zero := ⟨_, rfl⟩
    have htm : t ∈ ts := by rw [htd]; exact getD_mem _ _ _ h0
    obtain ⟨A, pc, hpv, _⟩ := (hq.pls t htm).shows.form
    have HFIN : Hid (∀ w', DropDone w w' base g va vs ts sizes k → DropRes w w' base g va vs ts sizes x (.returned (.tuple #[.agg #[.int .u32 t.id, .int .i64 t.mode, .slice A t.pl.length pc, .int .i64 t.rating, .int .i64 t.since], .bool true]))) := fun w' hd => .inr ⟨k, h0, h2, h1, by rw [← htd, ← hpv], hd⟩
    rcases own_trow hq.all with ⟨_, e0⟩ | ⟨b, c, rfl, hm, hblt, ht⟩
    · rw [e0] at h0; simp at h0
    have HT : Hid (TRow W0 b 0 ts.length ts) := ht.below HB0.out
    have H1 := Lib.hid h1
    have hk1 : (k : Int) < (ts.length : Int) := by omega
    have HK := Lib.hid h0
    have hm' := hm
    unfold maxLen at hm'
    obtain ⟨n, hn⟩ : ∃ n, n = ts.length := ⟨_, rfl⟩
    have hkn : k < n := by omega
    rw [← hn] at hk1 hm' HT HQ HFIN
    have HN := Lib.hid hn
    have HTD := Lib.hid htd
    have HPV := Lib.hid hpv
    have HQW := Lib.hid hq
    have HAF : Hid (∀ (w' w1 : World) (cs : Array Value), Below w.heap.size w w' → Blk w' (w.heap.size + 1) #[.int .u32 0, .int .i64 0, .slice none 0 0, .int .i64 0, .int .i64 0] 39 → Kept (w'.alloc (.cells cs 39)) w1 (fun j => (Value.slice (some ⟨b, 0, none⟩) n c).ownBlock = some j) → Blk w1 w'.heap.size cs 39 ∧ Blk w1 (w.heap.size + 1) #[.int .u32 0, .int .i64 0, .slice none 0 0, .int .i64 0, .int .i64 0] 39) := by
      intro w' w1 cs hb hr hk
      have hs := hb.size
      have hl := hr.lt
      refine ⟨(show Blk (w'.alloc (.cells cs _)) w'.heap.size cs _ from heap_alloc_new w' _).kept hk ?_, (hr.below ((Below.refl _ _).alloc (Nat.le_refl _) _)).kept hk ?_⟩
      · intro h
        have : b = w'.heap.size := by simpa [Value.ownBlock] using h
        omega
      · intro h
        have : b = w.heap.size + 1 := by simpa [Value.ownBlock] using h
        omega
    have hw1 : IntKind.i64.wrap ((k : Int) + 1) = (k : Int) + 1 := by rw [IntKind.wrap_i64]; omega
    clear h1 h2 hq ht hm hn htd htm hpv h0
    go_enter Try.func18, Try.ntmps18
    go_wp2_with (first | (go_at_call 60; rw [← HW0.out]; refine (at_some (fun t => t.id == x) 63 _ ea base g _ vs ts sizes _ HQ.out HA.out).mono ?_; rintro e w' ⟨rfl, hb'⟩; rw [H1.out]; have HQ1 := Lib.hid (HQ.out.below hb'); have c0 := HQ1.out.blk.cell 0; simp only [List.getElem?_toArray, List.getElem?_cons_zero] at c0; have tt := HT.out.below hb'; have t0 := tt.c0 k hkn; have t1 := tt.c1 k hkn; have t2 := tt.c2 k hkn; have t3 := tt.c3 k hkn; have t4 := tt.c4 k hkn; simp only [Nat.zero_add] at t0 t1 t2 t3 t4; rw [← HTD.out] at t0 t1 t2 t3 t4; rw [HPV.out] at t2; have lg := HQ1.out.lt; have HR1 := Lib.hid (HR.out.below hb'); have HB := Lib.hid (HB0.out.trans (hb'.mono HB0.out.size)); clear hb' tt) | (go_at_call 64; refine (drop_tail _ base g _ vs ts sizes k (HQ1.out.below ((Below.refl _ _).alloc (Nat.le_refl _) _)) HK.out).mono ?_; rintro e w1 ⟨A', c', rfl, q1, f1, hkept, hdone⟩; obtain ⟨bT, bR⟩ := HAF.out w' w1 _ HB.out HR1.out hkept; have d0 := bT.cell 0; have d1 := bT.cell 1; have d2 := bT.cell 2; have d3 := bT.cell 3; have d4 := bT.cell 4; simp only [List.getElem?_toArray, List.getElem?_cons_zero, List.getElem?_cons_succ] at d0 d1 d2 d3 d4; obtain ⟨cR, fR⟩ := blk_rule bR; have lg' := HB.out.size; have lT := bT.lt; have lR := bR.lt; have HDD := Lib.hid hdone; clear hdone))
    refine bodyPost_ret (v := .tuple #[.agg #[.int .u32 t.id, .int .i64 t.mode, .slice A t.pl.length pc, .int .i64 t.rating, .int .i64 t.since], .bool true]) (by simp [results, Try.results18, go_sem, cR]) rfl ?_
    refine HFIN.out _ ?_
    have hq0 : QRep w base g (.slice (some ⟨b, 0, none⟩) n c) vs ts sizes := by rw [HN.out]; exact HQW.out
    have HD0 : Hid (DropDone w (w1.setCell ⟨g, 0, none⟩ (.slice A' (ts.length - 1) c')) base g (.slice (some ⟨b, 0, none⟩) n c) vs ts sizes k) := by
      obtain ⟨va', q, hk, hs⟩ := HDD.out
      exact ⟨va', q, (kept_of_below (HB.out.alloc HB.out.size _) _).trans hk (fun j _ h => h), hs⟩
    exact ((((HD0.out.setCell hq0 (by simp) _).setCell hq0 (by simp) _).setCell hq0 (by simp) _).setCell hq0 (by simp) _).setCell hq0 (by simp) _
/-- A queue that is not there. -/
theorem drop_nil (x : Int) (w : World) : Calls Try.prog 18 #[.pointer none, .int .u32 x] w fun e w' => e = .returned (.tuple #[.agg #[.int .u32 0, .int .i64 0, .slice none 0 0, .int .i64 0, .int .i64 0], .bool false]) ∧ Below w.heap.size w w' := by
  have hmf : ∀ (fn : Fn) (first cap : Array Value) (w : World), (Instr.makeFunc fn first cap).run Try.prog w = .ok (.func fn first cap) w := fun _ _ _ _ => rfl
  go_enter Try.func18, Try.ntmps18
  go_wp2_with (go_at_call 60; refine (at_nil _ _).mono ?_; rintro e w' ⟨rfl, rfl⟩)
  refine bodyPost_ret (v := .tuple #[.agg #[.int .u32 0, .int .i64 0, .slice none 0 0, .int .i64 0, .int .i64 0], .bool false]) (by simp [results, Try.results18, go_sem]) rfl ?_
  exact ⟨rfl, below_two _ _ _⟩
theorem put_nil (a b c d e : Value) (w : World) (ha : a.oneCell' = true) (hb : b.oneCell' = true) (hc : c.oneCell' = true) (hd : d.oneCell' = true) (he : e.oneCell' = true) : Calls Try.prog 10 #[.pointer none, .agg #[a, b, c, d, e]] w fun e w' => e = .returned (.int .i64 10) ∧ Below w.heap.size w w' := by
  go_enter Try.func10, Try.ntmps10
  go_wp2_with fail
  go_ret
  exact ⟨rfl, (Below.refl _ _).alloc (Nat.le_refl _) _⟩
end Go.Proofs.Ytlkpmlcmgggifaa
namespace Go.Proofs.Ytlkpmlcmgggifaa
open Go.RowKit
/-- v shows xs; an empty row may stand anywhere. -/
def ShowsA (w : World) (k : IntKind) (v : Value) (xs : List Int) : Prop := Shows w k v xs ∨ (xs = [] ∧ ∃ a c, v = .slice (some a) 0 c)
theorem ShowsA.form {w : World} {k : IntKind} {v : Value} {xs : List Int} (h : ShowsA w k v xs) : ∃ A c, v = .slice A xs.length c := by
  rcases h with h | ⟨rfl, a, c, rfl⟩
  · obtain ⟨A, c, h, _⟩ := h.form
    exact ⟨A, c, h⟩
  · exact ⟨_, c, rfl⟩
theorem ShowsA.below {w w' : World} {k : IntKind} {v : Value} {xs : List Int} (h : ShowsA w k v xs) (hb : Below w.heap.size w w') : ShowsA w' k v xs := h.imp (fun h => h.below hb) id
theorem ShowsA.pos {w : World} {k : IntKind} {v : Value} {xs : List Int} (h : ShowsA w k v xs) (hp : 0 < xs.length) : Shows w k v xs := by
  rcases h with h | ⟨rfl, _⟩
  · exact h
  · simp at hp
/-- append onto an empty row. -/
theorem append_u32 (w : World) (ty : TypeId) (g : Nat) (pv : Value) (pl : List Int) (hg : w.heap[g]? = some (.cells #[] 33 (0, 0))) (hs : ShowsA w .u32 pv pl) (hf : pl.length ≤ 8) :
    ∃ v' w', (Builtin.append_ #[34, 34] ty #[.slice (some ⟨g, 0, none⟩) 0 0, pv]).run Try.prog w = .ok v' w' ∧ OwnN w' g 33 .u32 v' pl ∧ w.grownBy w' (some g) := by
  obtain ⟨i0, hi, hz0, hz1, hz2⟩ := info_parts info33
  have hown : w.ownsRow g 33 1 (.slice (some ⟨g, 0, none⟩) 0 0) 0 [] := ⟨rfl, .inr ⟨g, 0, #[], rfl, Nat.le_refl _, hg, Nat.le_refl _, by unfold maxLen; omega, rfl, rfl⟩⟩
  have hlt : g < w.heap.size := (Array.getElem?_eq_some_iff.1 hg).1
  rcases hs with (⟨rfl, rfl⟩ | ⟨b, off, c, rfl, hlc, hm, hlt2, hc⟩) | ⟨rfl, a, c, rfl⟩
  · refine ⟨.slice (some ⟨g, 0, none⟩) 0 0, w, ?_, hown, World.grownBy.refl _ _⟩
    have h := run_append_room_src (P := Try.prog) w 34 34 ty 33 i0 Try.underlying34 hi g 0 0 0 (.slice none 0 0) 0 [] (Src.ofNil w Try.underlying34 0) (Nat.le_refl _) (fun j hj => absurd hj (by simp)) (fun j hj => absurd hj (by simp))
    simpa [World.setCells] using h
  · obtain ⟨v', w', h1, h2, h3, _, _⟩ := run_append_own_at (P := Try.prog) w g 34 ty 33 i0 _ 1 4 Try.underlying34 hi hz0 hz1 hz2 rfl (by decide) _ 0 [] hown ⟨b, off, none⟩ pl.length c (pl.map (Value.int .u32)) (by simp) (by
      intro j u hu
      have hj : j < pl.length := by have := (List.getElem?_eq_some_iff.1 hu).1; simpa using this
      have e := hc j hj
      rw [show (⟨b, off, none⟩ : Addr).add j = ⟨b, off + j, none⟩ by rw [Addr.add_lit], e]
      simpa [List.getD, hj] using hu) (by
      intro u hu
      obtain ⟨x, _, rfl⟩ := List.mem_map.1 hu
      rfl) (by unfold maxLen; omega) (by omega) (by omega)
    exact ⟨v', w', h1, by rw [Nat.zero_add] at h2; exact h2, h3⟩
  · obtain ⟨v', w', h1, h2, h3, _, _⟩ := run_append_own_at (P := Try.prog) w g 34 ty 33 i0 _ 1 4 Try.underlying34 hi hz0 hz1 hz2 rfl (by decide) _ 0 [] hown a 0 c [] rfl (fun j u hu => by simp at hu) (fun u hu => by simp at hu) (by unfold maxLen; omega) (by omega) (by omega)
    exact ⟨v', w', h1, h2, h3⟩
/-- the same, as a step of a region that draws -/
theorem step_append_u32 {ops : Array Oper} {o : Oper} {a : Act} {w : World} {K : Act → World → Prop} {Q : Exit → Act → World → Prop} {E : Prop}
    (hg : o.guard = none) (s x : Operand) (hop : o.op = Op.call { callee := Callee.builtin Builtin.append, args := #[s, x], argTypes := #[34, 34] })
    (g : Nat) (pv : Value) (pl : List Int) (hs : a.eval s = .slice (some ⟨g, 0, none⟩) 0 0) (hx : a.eval x = pv) (hb : w.heap[g]? = some (.cells #[] 33 (0, 0))) (hp : ShowsA w .u32 pv pl) (hf : pl.length ≤ 8)
    (hK : ∀ v' w', OwnN w' g 33 .u32 v' pl → w.grownBy w' (some g) → K (a.put o.dst v') w') :
    if Region.wanted o (yielded ops a.tmps) = true then Oper.wp Try.prog o a w K Q else E := by
  obtain ⟨v', w', hr, ho, hgr⟩ := append_u32 w o.type g pv pl hb hp hf
  exact step_append_eq hg s x _ _ hop _ _ hs hx hr (hK v' w' ho hgr)
set_option maxHeartbeats 1600000 in
set_option maxRecDepth 100000 in
theorem lawOwn (id mode rating since : Int) (pv : Value) (pl : List Int) (w : World) (hs : ShowsA w .u32 pv pl) (hf : pl.length ≤ 8) :
    Calls Try.prog 11 #[.agg #[.int .u32 id, .int .i64 mode, pv, .int .i64 rating, .int .i64 since]] w fun e w' => Copied w w' pl e id mode rating since := by
  obtain ⟨A, c, rfl⟩ := hs.form
  have HS := Lib.hid hs
  clear hs
  obtain ⟨n, hn⟩ : ∃ n, n = pl.length := ⟨_, rfl⟩
  rw [← hn] at hf ⊢ HS
  have HN := Lib.hid hn
  clear hn
  obtain ⟨W3, hW3⟩ : ∃ W3, W3 = ((w.alloc (.cells #[.int .u32 id, .int .i64 mode, .slice A n c, .int .i64 rating, .int .i64 since] 36)).alloc (.cells #[.int .u32 0, .int .i64 0, .slice none 0 0, .int .i64 0, .int .i64 0] 39)).alloc (.cells #[] 33) := ⟨_, rfl⟩
  have hB3 : Below w.heap.size w W3 := by rw [hW3]; exact (below_two w _ _).alloc (by simp; omega) _
  have HB3 : Hid (∀ W : World, W.heap = W3.heap → W.heap[w.heap.size + 1 + 1]? = some (.cells #[] 33 (0, 0))) := by
    intro W hW
    rw [hW, hW3]
    have := heap_alloc_new ((w.alloc (.cells #[.int .u32 id, .int .i64 mode, .slice A n c, .int .i64 rating, .int .i64 since] 36)).alloc (.cells #[.int .u32 0, .int .i64 0, .slice none 0 0, .int .i64 0, .int .i64 0] 39)) (.cells #[] 33)
    simpa using this
  have HS3 : Hid (ShowsA W3.drew .u32 (.slice A n c) pl) := by exact (HS.out.below hB3).below ((Below.refl _ _).drew)
  have HR3 : Hid (Blk W3.drew (w.heap.size + 1) #[.int .u32 0, .int .i64 0, .slice none 0 0, .int .i64 0, .int .i64 0] 39) := by
    have h := (two_blk w #[.int .u32 id, .int .i64 mode, .slice A n c, .int .i64 rating, .int .i64 since] #[.int .u32 0, .int .i64 0, .slice none 0 0, .int .i64 0, .int .i64 0] 36 39).2
    have h2 := h.below ((Below.refl _ _).alloc (Nat.le_refl _) (.cells #[] 33))
    rw [hW3]; exact h2.below ((Below.refl _ _).drew)
  have HP3 : Hid (Blk W3.drew w.heap.size #[.int .u32 id, .int .i64 mode, .slice A n c, .int .i64 rating, .int .i64 since] 36) := by
    have h := (two_blk w #[.int .u32 id, .int .i64 mode, .slice A n c, .int .i64 rating, .int .i64 since] #[.int .u32 0, .int .i64 0, .slice none 0 0, .int .i64 0, .int .i64 0] 36 39).1
    have h2 := h.below ((Below.refl _ _).alloc (Nat.le_refl _) (.cells #[] 33))
    rw [hW3]; exact h2.below ((Below.refl _ _).drew)
  have HB3B := Lib.hid hB3.drew
  rw [hW3] at HB3 HS3 HR3 HP3 HB3B
  clear hB3 hW3
  go_enter Try.func11, Try.ntmps11
  go_wp2_with fail
  go_region_held3 (fun w' => w'.cell? ⟨w.heap.size, 0, none⟩ = some (.int .u32 id) ∧ w'.cell? ⟨w.heap.size, 1, none⟩ = some (.int .i64 mode) ∧ w'.cell? ⟨w.heap.size, 2, none⟩ = some (.slice A n c) ∧ w'.cell? ⟨w.heap.size, 3, none⟩ = some (.int .i64 rating) ∧ w'.cell? ⟨w.heap.size, 4, none⟩ = some (.int .i64 since))
    (first | go_keep | exact ⟨cP 0, cP 1, cP 2, cP 3, cP 4⟩)
    (first | (refine step_append_u32 rfl (.tmp 7) (.tmp 9) rfl (w.heap.size + 1 + 1) (.slice A n c) pl (by simp [Act.eval, Act.put]) (by simp [Act.eval, Act.put]) (HB3.out _ rfl) HS3.out (by rw [← HN.out]; exact hf) ?_; intro v9 w9 hown hgr; have hbR := (HR3.out).kept (kept_of_grown hgr) (fun e => by have := Option.some.inj e; omega); obtain ⟨cR, fR⟩ := blk_rule hbR; obtain ⟨cP, fP⟩ := blk_rule ((HP3.out).kept (kept_of_grown hgr) (fun e => by have := Option.some.inj e; omega)); have lR := hbR.lt; obtain ⟨A9, c9, rfl, _⟩ := hown.shows.form; have HOWN := Lib.hid hown; have HGR := Lib.hid hgr; clear hown hgr hbR))
  go_wp2
  refine bodyPost_ret (v := .agg #[.int .u32 id, .int .i64 mode, .slice A9 pl.length c9, .int .i64 rating, .int .i64 since]) (by simp [results, Try.results11, go_sem, cR]) rfl ?_
  have hn : ∀ k, (Value.slice A9 pl.length c9).ownBlock = some k → k ≠ w.heap.size + 1 := fun k hk => by
    obtain ⟨_, _, h⟩ := own_blk HOWN.out hk
    omega
  have hb : Below w.heap.size w w9 := HB3B.out.grown HGR.out HB3B.out.size (fun k e => by have := Option.some.inj e; omega)
  refine ⟨_, rfl, ?_, ?_⟩
  · exact own_setCell (own_setCell (own_setCell (own_setCell (own_setCell (own_mono HOWN.out (by omega)) hn _) hn _) hn _) hn _) hn _
  · exact ((((hb.setCell (by simp) _).setCell (by simp) _).setCell (by simp) _).setCell (by simp) _).setCell (by simp) _
end Go.Proofs.Ytlkpmlcmgggifaa
namespace Go.Proofs.Ytlkpmlcmgggifaa
open Go.RowKit
theorem Shows.blk {w : World} {k : IntKind} {v : Value} {xs : List Int} (h : Shows w k v xs) (hp : 0 < xs.length) : ∃ b off c, v = .slice (some ⟨b, off, none⟩) xs.length c ∧ xs.length ≤ maxLen ∧ b < w.heap.size ∧ ∀ j, j < xs.length → w.cell? ⟨b, off + j, none⟩ = some (.int k (xs.getD j 0)) := by
  rcases h with ⟨rfl, rfl⟩ | ⟨b, off, c, rfl, hlc, hm, hlt, hc⟩
  · simp at hp
  · exact ⟨b, off, c, rfl, Nat.le_trans hlc hm, hlt, hc⟩
theorem eq_of_getD {xs ys : List Int} (hl : xs.length = ys.length) (h : ∀ j, j < xs.length → xs.getD j 0 = ys.getD j 0) : xs = ys := by
  apply List.ext_getElem hl
  intro j h1 h2
  have := h j h1
  simpa [List.getD, h1, h2] using this
def SameRes (w w' : World) (xs ys : List Int) (e : Ending) : Prop := e = .returned (.bool (decide (xs = ys))) ∧ Below w.heap.size w w'
theorem same_no {w w' : World} {xs ys : List Int} (h : xs ≠ ys) (hb : Below w.heap.size w w') : SameRes w w' xs ys (.returned (.bool false)) := ⟨by simp [h], hb⟩
theorem same_yes {w w' : World} {xs ys : List Int} (h : xs = ys) (hb : Below w.heap.size w w') : SameRes w w' xs ys (.returned (.bool true)) := ⟨by simp [h], hb⟩
set_option maxHeartbeats 1600000 in
set_option maxRecDepth 100000 in
theorem same07 (va vb : Value) (xs ys : List Int) (w : World) (ha : ShowsA w .u32 va xs) (hb : ShowsA w .u32 vb ys) :
    Calls Try.prog 26 #[va, vb] w fun e w' => SameRes w w' xs ys e := by
  obtain ⟨m, hm⟩ : ∃ m, m = ys.length := ⟨_, rfl⟩
  obtain ⟨n, hn⟩ : ∃ n, n = xs.length := ⟨_, rfl⟩
  have HA := Lib.hid ha
  have HB := Lib.hid hb
  have HN := Lib.hid hn
  have HM := Lib.hid hm
  obtain ⟨A, ca, rfl⟩ := ha.form
  obtain ⟨B, cb, rfl⟩ := hb.form
  rw [← hn] at HA ⊢
  rw [← hm] at HB ⊢
  clear ha hb hn hm
  by_cases hnm : n = m
  · have hd : ((n : Int) != (m : Int)) = false := by simp [hnm]
    rcases Nat.eq_zero_or_pos n with h0 | hpos
    · have HE : Hid (xs = ys) := by
        show _ = _
        rw [List.eq_nil_of_length_eq_zero (HN.out.symm.trans h0), List.eq_nil_of_length_eq_zero (HM.out.symm.trans (hnm.symm.trans h0))]
      have h0' : m = 0 := by omega
      subst h0; subst h0'
      clear hnm hd
      go_enter Try.func26, Try.ntmps26
      go_wp2_with fail
      refine wp_loop_rounds 1 ?_; rw [rounds_succ]
      go_wp2
      go_ret
      exact same_yes HE.out (Below.refl _ _)
    · subst hnm
      obtain ⟨b1, o1, c1, e1, hmx, l1, k1⟩ := (HA.out.pos (by rw [← HN.out]; exact hpos)).blk (by rw [← HN.out]; exact hpos)
      obtain ⟨b2, o2, c2, e2, _, l2, k2⟩ := (HB.out.pos (by rw [← HM.out]; exact hpos)).blk (by rw [← HM.out]; exact hpos)
      rw [← HN.out] at e1 hmx k1
      rw [← HM.out] at e2 k2
      injection e1 with e1 _ e1c
      injection e2 with e2 _ e2c
      subst e1; subst e2
      have K1 := Lib.hid k1
      have K2 := Lib.hid k2
      unfold maxLen at hmx
      clear k1 k2 hd HA HB e1c e2c
      go_enter Try.func26, Try.ntmps26
      go_wp2_with fail
      go_loopw [5] (fun i W => ∃ k : Nat, k ≤ n ∧ i = .int .i64 k ∧ Hid (∀ j, j < k → xs.getD j 0 = ys.getD j 0) ∧ Hid (Below w.heap.size w W)) (fun i _ => n - (intOf i).toNat)
      case atStart => exact ⟨0, Nat.zero_le _, rfl, fun j hj => absurd hj (by omega), Below.refl _ _⟩
      case round =>
        obtain ⟨k, hk, rfl, HJ, HBW⟩ := hrel
        by_cases hlt : k < n
        · have hx := (HBW.out.cell (p := ⟨b1, o1 + k, none⟩) l1).trans (K1.out k hlt)
          have hy := (HBW.out.cell (p := ⟨b2, o2 + k, none⟩) l2).trans (K2.out k hlt)
          by_cases hxy : xs.getD k 0 = ys.getD k 0
          · have HJ2 : Hid (∀ j, j < k + 1 → xs.getD j 0 = ys.getD j 0) := fun j hj => by
              by_cases e : j = k
              · subst e; exact hxy
              · exact HJ.out j (by omega)
            rw [← hxy] at hy
            clear hxy HJ
            generalize xs.getD k 0 = y at hx hy
            go_wp2_with fail
            go_quiet (fail)
            have hbq := below_drewN HBW.out nq
            go_wp2
            go_roundw
            case rel => exact ⟨k + 1, by omega, by go_num, HJ2, hbq⟩
            case measure => simp [intOf]; omega
          · have HNE : Hid (xs ≠ ys) := fun e => hxy (by rw [e])
            have hd : (xs.getD k 0 != ys.getD k 0) = true := by simpa using hxy
            clear hxy HJ
            generalize xs.getD k 0 = y at hx hd
            generalize ys.getD k 0 = z at hy hd
            go_wp2_with fail
            go_quiet (fail)
            go_wp2
            go_ret
            exact same_no HNE.out (below_drewN HBW.out _)
        · have HE : Hid (xs = ys) := eq_of_getD (HN.out.symm.trans HM.out) (fun j hj => HJ.out j (by have := HN.out; omega))
          go_wp2
          go_ret
          exact same_yes HE.out HBW.out
  · have hd : ((n : Int) != (m : Int)) = true := by simpa using fun h => hnm (by omega)
    have HNE : Hid (xs ≠ ys) := fun e => hnm (by rw [HN.out, HM.out, e])
    clear hnm
    go_enter Try.func26, Try.ntmps26
    go_wp2
    go_ret
    exact same_no HNE.out (Below.refl _ _)
end Go.Proofs.Ytlkpmlcmgggifaa
namespace Go.Proofs.Ytlkpmlcmgggifaa
open Go.RowKit
/-- A ticket that may stand in a queue of these sizes. -/
structure OkT (sizes : List Int) (t : Tk) : Prop where
  id : rightB t.id = true
  pls : ∀ x ∈ t.pl, rightB x = true
  m0 : 0 ≤ t.mode
  m1 : t.mode < sizes.length
  n0 : t.pl.length ≠ 0
  n1 : (t.pl.length : Int) ≤ sizes.getD t.mode.toNat 0
  r0 : 0 ≤ t.rating
  r1 : t.rating ≤ 10000
  nodup : t.pl.Nodup
structure Inv (ts : List Tk) (sizes : List Int) : Prop where
  sorted : SortedT ts
  ids : ts.Pairwise (fun a b => a.id ≠ b.id)
  apart : ts.Pairwise (fun a b => ∀ x ∈ a.pl, x ∉ b.pl)
  one : ∀ t ∈ ts, OkT sizes t
  many : ∀ m, (ts.filter (fun t => t.mode == m)).length ≤ 16
theorem Inv.nil (sizes : List Int) : Inv [] sizes := ⟨List.Pairwise.nil, List.Pairwise.nil, List.Pairwise.nil, fun t ht => by simp at ht, fun m => by simp⟩
theorem rightB_ne {x : Int} (h : rightB x = true) : x ≠ 0 := by
  rintro rfl
  revert h; decide
theorem OkT.key {sizes : List Int} {t t' : Tk} (h : OkT sizes t) (hk : t'.key = t.key) : OkT sizes t' := by
  obtain ⟨i, m, pv, pl, r, s⟩ := t
  obtain ⟨i', m', pv', pl', r', s'⟩ := t'
  simp only [Tk.key, Prod.mk.injEq] at hk
  obtain ⟨rfl, rfl, rfl, rfl, rfl⟩ := hk
  exact ⟨h.id, h.pls, h.m0, h.m1, h.n0, h.n1, h.r0, h.r1, h.nodup⟩
theorem nodup_of_hits {ts : List Tk} {pl : List Int} (h : doubledB ts pl = false) : pl.Nodup := by
  rw [List.nodup_iff_pairwise_ne, List.pairwise_iff_getElem]
  intro i j hi hj hij e
  have := doubled_yes (ts := ts) (k := j) hj (by
    unfold hitB
    rw [Bool.or_eq_true]; left
    have e2 : pl.getD j 0 = pl[j] := by simp [List.getD, hj]
    rw [e2, ← e, decide_eq_true_eq]
    rw [List.mem_take_iff_getElem]
    exact ⟨i, by omega, rfl⟩)
  rw [this] at h; cases h
theorem apart_of_hits {ts : List Tk} {pl : List Int} (hid : ∀ y ∈ ts, rightB y.id = true) (h : doubledB ts pl = false) : ∀ y ∈ ts, ∀ x ∈ y.pl, x ∉ pl := by
  intro y hy x hx hxp
  obtain ⟨k, hk, e⟩ := List.getElem_of_mem hxp
  have := doubled_yes (ts := ts) (k := k) hk (by
    unfold hitB
    rw [Bool.or_eq_true]; right
    have e2 : pl.getD k 0 = x := by simp [List.getD, hk, e]
    rw [e2, ofI]
    cases hf : ts.find? (fun t => decide (x ∈ t.pl)) with
    | none =>
      rw [List.find?_eq_none] at hf
      exact absurd hx (by simpa using hf y hy)
    | some z =>
      have hz := rightB_ne (hid z (List.mem_of_find?_eq_some hf))
      simpa [idOf] using hz)
  rw [this] at h; cases h
theorem put_zero {ts : List Tk} {sizes : List Int} {t : Tk} (hid : ∀ y ∈ ts, rightB y.id = true) (h : putCode ts sizes t = 0) :
    OkT sizes t ∧ (∀ y ∈ ts, y.id ≠ t.id) ∧ (∀ y ∈ ts, ∀ x ∈ y.pl, x ∉ t.pl) ∧ (ts.filter (fun y => y.mode == t.mode)).length < 16 := by
  unfold putCode at h
  split at h
  · cases h
  rename_i h1
  split at h
  · cases h
  rename_i h2
  split at h
  · cases h
  rename_i h3
  split at h
  · cases h
  rename_i h4
  split at h
  · cases h
  rename_i h5
  split at h
  · cases h
  rename_i h6
  simp only [Bool.not_eq_true, Bool.or_eq_false_iff, Bool.not_eq_false'] at h1 h5
  obtain ⟨h1a, h1b⟩ := h1
  obtain ⟨h5a, h5b⟩ := h5
  refine ⟨⟨h1a, ?_, by omega, by omega, by omega, by omega, by omega, by omega, nodup_of_hits h5b⟩, ?_, apart_of_hits hid h5b, by omega⟩
  · intro x hx
    simpa using List.any_eq_false.1 h1b x hx
  · intro y hy e
    rw [Option.isSome_eq_false_iff, Option.isNone_iff_eq_none, List.find?_eq_none] at h5a
    exact h5a y hy (by simpa using e)
theorem put_zero_iff {ts : List Tk} {sizes : List Int} {t : Tk} (h1 : OkT sizes t) (h2 : ∀ y ∈ ts, y.id ≠ t.id) (h3 : ∀ y ∈ ts, ∀ x ∈ y.pl, x ∉ t.pl) (h4 : (ts.filter (fun y => y.mode == t.mode)).length < 16) : putCode ts sizes t = 0 := by
  unfold putCode
  have e1 : (!rightB t.id || t.pl.any (fun x => !rightB x)) = false := by
    rw [Bool.or_eq_false_iff, h1.id, List.any_eq_false]
    exact ⟨rfl, fun x hx => by simp [h1.pls x hx]⟩
  have e5 : ((ts.find? (fun y => y.id == t.id)).isSome || doubledB ts t.pl) = false := by
    rw [Bool.or_eq_false_iff, Option.isSome_eq_false_iff, Option.isNone_iff_eq_none, List.find?_eq_none]
    refine ⟨fun y hy => by simpa using h2 y hy, doubled_no fun j hj => ?_⟩
    have e2 : t.pl.getD j 0 = t.pl[j] := by simp [List.getD, hj]
    unfold hitB
    rw [Bool.or_eq_false_iff, e2]
    constructor
    · rw [decide_eq_false_iff_not, List.mem_take_iff_getElem]
      rintro ⟨i, hi, e⟩
      have := (List.pairwise_iff_getElem.1 (List.nodup_iff_pairwise_ne.1 h1.nodup)) i j (by omega) hj (by omega)
      exact this e
    · have : ts.find? (fun y => decide (t.pl[j] ∈ y.pl)) = none := by
        rw [List.find?_eq_none]
        intro y hy hc
        exact h3 y hy _ (by simpa using hc) (List.getElem_mem hj)
      simp [ofI, this, idOf]
  have := h1.m0; have := h1.m1; have := h1.n0; have := h1.n1; have := h1.r0; have := h1.r1
  rw [e1, if_neg (by decide), if_neg (by omega), if_neg (by omega), if_neg (by omega), e5, if_neg (by decide), if_neg (by omega)]
theorem insT_perm (t : Tk) (ts : List Tk) : (insT t ts).Perm (t :: ts) := by
  induction ts with
  | nil => exact List.Perm.refl _
  | cons y r ih =>
    simp only [insT]
    split
    · exact (ih.cons y).trans (List.Perm.swap t y r)
    · exact List.Perm.refl _
theorem insT_sorted (t : Tk) (ts : List Tk) (hs : SortedT ts) (hne : ∀ y ∈ ts, y.id ≠ t.id) : SortedT (insT t ts) := by
  induction ts with
  | nil => simp [insT, SortedT]
  | cons y r ih =>
    have hy := hne y (by simp)
    obtain ⟨h1, h2⟩ := List.pairwise_cons.1 hs
    simp only [insT]
    split
    · rename_i hlt
      refine List.pairwise_cons.2 ⟨fun z hz => ?_, ih h2 (fun z hz => hne z (by simp [hz]))⟩
      rcases insT_mem t r z hz with rfl | hz
      · exact hlt
      · exact h1 z hz
    · rename_i hlt
      have hty : ordT t y < 0 := by
        rw [ordT_neg] at hlt ⊢
        omega
      refine List.pairwise_cons.2 ⟨fun z hz => ?_, hs⟩
      rcases List.mem_cons.1 hz with rfl | hz
      · exact hty
      · have := h1 z hz
        rw [ordT_neg] at this hty ⊢
        omega
theorem Inv.ins {ts : List Tk} {sizes : List Int} {t t' : Tk} (h : Inv ts sizes) (hc : putCode ts sizes t = 0) (hk : t'.key = t.key) : Inv (insT t' ts) sizes := by
  obtain ⟨h1, h2, h3, h4⟩ := put_zero (fun y hy => (h.one y hy).id) hc
  obtain ⟨i, m, pv, pl, r, s⟩ := t
  obtain ⟨i', m', pv', pl', r', s'⟩ := t'
  simp only [Tk.key, Prod.mk.injEq] at hk
  obtain ⟨rfl, rfl, rfl, rfl, rfl⟩ := hk
  have hp := insT_perm ⟨i', m', pv', pl', r', s'⟩ ts
  refine ⟨insT_sorted _ _ h.sorted h2, ?_, ?_, ?_, ?_⟩
  · refine (hp.pairwise_iff (fun {a b} hab e => hab e.symm)).2 (List.pairwise_cons.2 ⟨fun y hy e => h2 y hy e.symm, h.ids⟩)
  · refine (hp.pairwise_iff (fun {a b} hab x hx hxa => hab x hxa hx)).2 (List.pairwise_cons.2 ⟨fun y hy x hx hxy => h3 y hy x hxy hx, h.apart⟩)
  · intro y hy
    rcases insT_mem _ _ y hy with rfl | hy
    · exact h1.key rfl
    · exact h.one y hy
  · intro m2
    have hl := (hp.filter (fun t => t.mode == m2)).length_eq
    rw [hl, List.filter_cons]
    split
    · rename_i hm
      simp only [beq_iff_eq] at hm
      subst hm
      simp only [List.length_cons]
      exact h4
    · exact h.many m2
theorem Inv.erase {ts : List Tk} {sizes : List Int} (h : Inv ts sizes) (k : Nat) : Inv (ts.eraseIdx k) sizes := by
  have hs := List.eraseIdx_sublist ts k
  exact ⟨h.sorted.sublist hs, h.ids.sublist hs, h.apart.sublist hs, fun t ht => h.one t (hs.subset ht), fun m => Nat.le_trans ((hs.filter _).length_le) (h.many m)⟩
theorem split_at {ts : List Tk} {k : Nat} (hk : k < ts.length) : ts = ts.take k ++ ts.getD k Tk.zero :: ts.drop (k + 1) ∧ ts.eraseIdx k = ts.take k ++ ts.drop (k + 1) := by
  have e : ts.getD k Tk.zero = ts[k] := by simp [List.getD, hk]
  rw [e, List.eraseIdx_eq_take_drop_succ]
  exact ⟨by rw [List.getElem_cons_drop, List.take_append_drop], rfl⟩
theorem put_again {ts : List Tk} {sizes : List Int} {t : Tk} {k : Nat} (h : Inv ts sizes) (hk : k < ts.length) (ht : t.key = (ts.getD k Tk.zero).key) : putCode (ts.eraseIdx k) sizes t = 0 := by
  obtain ⟨e1, e2⟩ := split_at hk
  have hm : ts.getD k Tk.zero ∈ ts := getD_mem _ _ _ hk
  have hok := (h.one _ hm).key ht
  have hi := h.ids; have ha := h.apart; have hc := h.many t.mode
  rw [e1] at hi ha
  rw [e1] at hc
  obtain ⟨i1, i2, i3⟩ := List.pairwise_append.1 hi
  obtain ⟨i4, i5⟩ := List.pairwise_cons.1 i2
  obtain ⟨a1, a2, a3⟩ := List.pairwise_append.1 ha
  obtain ⟨a4, a5⟩ := List.pairwise_cons.1 a2
  rw [List.filter_append, List.filter_cons] at hc
  have h1 : t.id = (ts.getD k Tk.zero).id := by simpa [Tk.key] using congrArg (·.1) ht
  have h2 : t.mode = (ts.getD k Tk.zero).mode := by simpa [Tk.key] using congrArg (·.2.1) ht
  have h3 : t.pl = (ts.getD k Tk.zero).pl := by simpa [Tk.key] using congrArg (·.2.2.1) ht
  rw [e2]
  refine put_zero_iff hok ?_ ?_ ?_
  · intro y hy e
    rw [h1] at e
    rcases List.mem_append.1 hy with hy | hy
    · exact i3 y hy _ (by simp) e
    · exact i4 y hy e.symm
  · intro y hy x hx hxt
    rw [h3] at hxt
    rcases List.mem_append.1 hy with hy | hy
    · exact a3 y hy _ (by simp) x hx hxt
    · exact a4 y hy x hxt hx
  · rw [List.filter_append, List.length_append]
    rw [h2] at hc ⊢
    simp only [beq_self_eq_true, if_true, List.length_append, List.length_cons] at hc
    omega
theorem ins_again {ts : List Tk} {sizes : List Int} {t : Tk} {k : Nat} (h : Inv ts sizes) (hk : k < ts.length) (ht : t.key = (ts.getD k Tk.zero).key) : (insT t (ts.eraseIdx k)).map Tk.key = ts.map Tk.key := by
  obtain ⟨e1, e2⟩ := split_at hk
  have hs := h.sorted
  unfold SortedT at hs
  rw [e1] at hs
  obtain ⟨s1, s2, s3⟩ := List.pairwise_append.1 hs
  obtain ⟨s4, s5⟩ := List.pairwise_cons.1 s2
  have h1 : t.id = (ts.getD k Tk.zero).id := by simpa [Tk.key] using congrArg (·.1) ht
  have h2 : t.since = (ts.getD k Tk.zero).since := by simpa [Tk.key] using congrArg (·.2.2.2.2) ht
  have key : insT t (ts.take k ++ ts.drop (k + 1)) = ts.take k ++ t :: ts.drop (k + 1) := by
    have hA : ∀ y ∈ ts.take k, ordT y t < 0 := fun y hy => by
      have := s3 y hy (ts.getD k Tk.zero) (by simp)
      rw [ordT_neg] at this ⊢
      rw [h1, h2]; exact this
    have hB : ∀ y ∈ ts.drop (k + 1), ¬ ordT y t < 0 := fun y hy => by
      have := s4 y hy
      rw [ordT_neg] at this ⊢
      rw [h1, h2]; omega
    revert hA hB
    generalize ts.take k = l
    generalize ts.drop (k + 1) = r
    intro hA hB
    induction l with
    | nil =>
      cases r with
      | nil => rfl
      | cons y r => simp only [List.nil_append, insT, if_neg (hB y (by simp))]
    | cons y l ih =>
      simp only [List.cons_append, insT, if_pos (hA y (by simp))]
      rw [ih (fun z hz => hA z (by simp [hz]))]
  rw [e2, key]
  conv => rhs; rw [e1]
  simp [ht]
theorem filter_keys (m : Int) : ∀ (ts us : List Tk), ts.map Tk.key = us.map Tk.key → (ts.filter (fun t => t.mode == m)).map Tk.key = (us.filter (fun t => t.mode == m)).map Tk.key
  | [], [], _ => rfl
  | [], _ :: _, h => by simp at h
  | _ :: _, [], h => by simp at h
  | t :: ts, u :: us, h => by
    simp only [List.map_cons, List.cons.injEq] at h
    have hm : t.mode = u.mode := by simpa [Tk.key] using congrArg (·.2.1) h.1
    have ih := filter_keys m ts us h.2
    simp only [List.filter_cons, hm]
    split
    · simp [h.1, ih]
    · exact ih
theorem find_of {ts : List Tk} {sizes : List Int} (h : Inv ts sizes) {t : Tk} (ht : t ∈ ts) : ts.find? (fun y => y.id == t.id) = some t := by
  have hi := h.ids
  clear h
  induction ts with
  | nil => simp at ht
  | cons y r ih =>
    obtain ⟨h1, h2⟩ := List.pairwise_cons.1 hi
    rcases List.mem_cons.1 ht with rfl | hm
    · simp
    · rw [List.find?_cons_of_neg (by simpa using h1 t hm)]
      exact ih hm h2
end Go.Proofs.Ytlkpmlcmgggifaa
namespace Go.Proofs.Ytlkpmlcmgggifaa
open Go.RowKit
/-- What a queue is made of. -/
def Foot (g : Nat) (va vs : Value) (ts : List Tk) (k : Nat) : Prop := k = g ∨ va.ownBlock = some k ∨ vs.ownBlock = some k ∨ ∃ t ∈ ts, t.pv.ownBlock = some k
theorem QRep.foot {w : World} {base g : Nat} {va vs : Value} {ts : List Tk} {sizes : List Int} (h : QRep w base g va vs ts sizes) {k : Nat} (hk : Foot g va vs ts k) : k < w.heap.size := by
  rcases hk with rfl | hk | hk | ⟨t, ht, hk⟩
  · exact h.blk.lt
  · exact own_lt h.all hk
  · exact own_lt h.szs hk
  · exact own_lt (h.pls t ht) hk
/-- At g stands a queue of the tickets ts, made of blocks from B on, none of P. -/
def QL (B : Nat) (P : Nat → Prop) (w : World) (g : Nat) (ts : List Tk) (sizes : List Int) : Prop := ∃ va vs, QRep w B g va vs ts sizes ∧ ∀ k, P k → ¬ Foot g va vs ts k
abbrev nop : Nat → Prop := fun _ => False
theorem QL.below {B : Nat} {P : Nat → Prop} {w w' : World} {g : Nat} {ts : List Tk} {sizes : List Int} (h : QL B P w g ts sizes) (hb : Below w.heap.size w w') : QL B P w' g ts sizes := by
  obtain ⟨va, vs, h, hp⟩ := h
  exact ⟨va, vs, h.below hb, hp⟩
theorem QL.any {B : Nat} {P : Nat → Prop} {w : World} {g : Nat} {ts : List Tk} {sizes : List Int} (h : QL B P w g ts sizes) : QL B nop w g ts sizes := by
  obtain ⟨va, vs, h, hp⟩ := h
  exact ⟨va, vs, h, fun _ c => c.elim⟩
/-- What is made later is none of it. -/
theorem QL.fresh {B : Nat} {P : Nat → Prop} {w : World} {g : Nat} {ts : List Tk} {sizes : List Int} (h : QL B P w g ts sizes) : QL B (fun k => w.heap.size ≤ k) w g ts sizes := by
  obtain ⟨va, vs, h, hp⟩ := h
  exact ⟨va, vs, h, fun k hk hf => by have := h.foot hf; omega⟩
theorem QL.narrow {B : Nat} {P P' : Nat → Prop} {w : World} {g : Nat} {ts : List Tk} {sizes : List Int} (h : QL B P w g ts sizes) (hp : ∀ k, P' k → P k) : QL B P' w g ts sizes := by
  obtain ⟨va, vs, h, hp'⟩ := h
  exact ⟨va, vs, h, fun k hk => hp' k (hp k hk)⟩
theorem QL.setCell {B : Nat} {P : Nat → Prop} {w : World} {g : Nat} {ts : List Tk} {sizes : List Int} (h : QL B P w g ts sizes) {a : Addr} (ha : P a.block) (u : Value) : QL B P (w.setCell a u) g ts sizes := by
  obtain ⟨va, vs, h, hp⟩ := h
  have hk : Kept w (w.setCell a u) (fun j => j = a.block) := Kept.setCell (S := fun j => j = a.block) (Kept.refl _ _) (fun _ => rfl) u
  have hn := hp _ ha
  refine ⟨va, vs, ⟨h.blk.kept hk (fun e => hn (.inl e.symm)), h.low, own_kept h.all hk (fun j hj e => hn (.inr (.inl (by rw [← e]; exact hj)))), own_kept h.szs hk (fun j hj e => hn (.inr (.inr (.inl (by rw [← e]; exact hj))))),
    fun t ht => own_kept (h.pls t ht) hk (fun j hj e => hn (.inr (.inr (.inr ⟨t, ht, by rw [← e]; exact hj⟩)))), h.few⟩, hp⟩
theorem QL.mono {B B' : Nat} {P : Nat → Prop} {w : World} {g : Nat} {ts : List Tk} {sizes : List Int} (h : QL B P w g ts sizes) (hb : B' ≤ B) : QL B' P w g ts sizes := by
  obtain ⟨va, vs, h, hp⟩ := h
  exact ⟨va, vs, ⟨h.blk, Nat.le_trans hb h.low, own_mono h.all hb, own_mono h.szs hb, fun t ht => own_mono (h.pls t ht) hb, h.few⟩, hp⟩
theorem QL.size {B : Nat} {P : Nat → Prop} {w : World} {g : Nat} {ts : List Tk} {sizes : List Int} (h : QL B P w g ts sizes) : B ≤ w.heap.size := by
  obtain ⟨va, vs, h, _⟩ := h
  exact Nat.le_of_lt (Nat.lt_of_le_of_lt h.low h.blk.lt)
theorem below_of_touch {w w' : World} {B g : Nat} {va vs : Value} {ts : List Tk} {sizes : List Int} (hq : QRep w B g va vs ts sizes) (hk : Kept w w' (fun k => k = g ∨ va.ownBlock = some k)) : Below B w w' := by
  refine below_of_kept hk (Nat.le_of_lt (Nat.lt_of_le_of_lt hq.low hq.blk.lt)) ?_
  intro j hj hs
  rcases hs with rfl | hs
  · exact absurd hq.low (by omega)
  · obtain ⟨_, _, h⟩ := own_blk hq.all hs
    omega
/-- the blocks of P stay, and all rows of ids -/
structure StayP (P : Nat → Prop) (w w' : World) : Prop where
  size : w.heap.size ≤ w'.heap.size
  p : ∀ k, P k → k < w.heap.size → w'.heap[k]? = w.heap[k]?
  u : ∀ k cur, Blk w k cur 33 → w'.heap[k]? = w.heap[k]?
theorem stay_of_touch {P : Nat → Prop} {w w' : World} {base g : Nat} {va vs : Value} {ts : List Tk} {sizes : List Int} (hq : QRep w base g va vs ts sizes) (hp : ∀ k, P k → ¬ Foot g va vs ts k) (hk : Kept w w' (fun k => k = g ∨ va.ownBlock = some k)) : StayP P w w' :=
  ⟨hk.size, fun k h1 h2 => hk.block k h2 (fun hs => hp k h1 (hs.imp id .inl)), fun k cur hb => hk.block k hb.lt (fun hs => by
    rcases hs with rfl | hs
    · exact absurd rfl (hb.ne hq.blk (by decide))
    · obtain ⟨c2, b2, _⟩ := own_blk hq.all hs
      exact absurd rfl (hb.ne b2 (by decide)))⟩
theorem StayP.blk {P : Nat → Prop} {w w' : World} (h : StayP P w w') {k : Nat} {cur : Array Value} {t : TypeId} (hb : Blk w k cur t) (hk : P k) : Blk w' k cur t := (h.p k hk hb.lt).trans hb
theorem StayP.own {P : Nat → Prop} {w w' : World} (h : StayP P w w') {base : Nat} {e : TypeId} {size : Nat} {v : Value} {n : Nat} {xs : List Value} (ho : w.ownsRow base e size v n xs) (hP : ∀ k, base ≤ k → k < w.heap.size → P k) : w'.ownsRow base e size v n xs := by
  refine ⟨ho.1, ?_⟩
  rcases ho.2 with hn' | ⟨g, cap, cur, rfl, hb, hgg, rest⟩
  · exact .inl hn'
  · exact .inr ⟨g, cap, cur, rfl, hb, by rw [h.p g (hP g hb (Array.getElem?_eq_some_iff.1 hgg).1) (Array.getElem?_eq_some_iff.1 hgg).1]; exact hgg, rest⟩
theorem StayP.ids {P : Nat → Prop} {w w' : World} (h : StayP P w w') {base : Nat} {v : Value} {xs : List Int} (ho : OwnN w base 33 .u32 v xs) : OwnN w' base 33 .u32 v xs := by
  refine ⟨ho.1, ?_⟩
  rcases ho.2 with hn' | ⟨g, cap, cur, rfl, hb, hgg, rest⟩
  · exact .inl hn'
  · exact .inr ⟨g, cap, cur, rfl, hb, by rw [h.u g cur hgg]; exact hgg, rest⟩
theorem StayP.row {P : Nat → Prop} {w w' : World} (h : StayP P w w') {base : Nat} {v : Value} {ts : List Tk} (ho : ORow w base v ts) (hP : ∀ k, base ≤ k → k < w.heap.size → P k) : ORow w' base v ts := ⟨h.own ho.row hP, fun t ht => h.own (ho.pls t ht) hP⟩
theorem stay_of_below {P : Nat → Prop} {w w' : World} (h : Below w.heap.size w w') : StayP P w w' := ⟨h.size, fun k _ hk => h.block k hk, fun k cur hb => h.block k hb.lt⟩
def PutL (B : Nat) (P : Nat → Prop) (w w' : World) (g : Nat) (ts : List Tk) (sizes : List Int) (t : Tk) (e : Ending) : Prop :=
  e = .returned (.int .i64 (putCode ts sizes t)) ∧ Below B w w' ∧ StayP P w w' ∧ ∃ ts', QL B P w' g ts' sizes ∧ (putCode ts sizes t ≠ 0 → ts' = ts) ∧ (putCode ts sizes t = 0 → ∃ t', t'.key = t.key ∧ ts' = insT t' ts)
theorem put_law (B g : Nat) (P : Nat → Prop) (ts : List Tk) (sizes : List Int) (id mode rating since : Int) (pv : Value) (pl : List Int) (w : World) (hq : QL B P w g ts sizes) (hP : ∀ k, P k → k < w.heap.size) (hs : Shows w .u32 pv pl) (hf : pl.length ≤ 8) (hmany : ts.length ≤ 1000) (hi : SortedT ts) :
    Calls Try.prog 10 #[.pointer (some ⟨g, 0, none⟩), .agg #[.int .u32 id, .int .i64 mode, pv, .int .i64 rating, .int .i64 since]] w fun e w' => PutL B P w w' g ts sizes ⟨id, mode, pv, pl, rating, since⟩ e := by
  have hB := hq.size
  obtain ⟨va, vs, hq, hp⟩ := hq
  refine (put_some B g va vs ts sizes ⟨id, mode, pv, pl, rating, since⟩ w hq hs hf hmany hi hB).mono ?_
  rintro e w' ⟨h1, h2, h3⟩
  refine ⟨h1, ?_⟩
  by_cases hc : putCode ts sizes ⟨id, mode, pv, pl, rating, since⟩ = 0
  · obtain ⟨va', t', hk, hqr, hkp, hfr, hfr2⟩ := h3 hc
    refine ⟨below_of_touch hq hkp, stay_of_touch hq hp hkp, _, ⟨va', vs, hqr, ?_⟩, fun h => absurd hc h, fun _ => ⟨t', hk, rfl⟩⟩
    intro k hPk hf
    rcases hf with rfl | hf | hf | ⟨t, ht, hf⟩
    · exact hp _ hPk (.inl rfl)
    · rcases hfr k hf with h | h
      · exact hp k hPk (.inr (.inl h))
      · have := hP k hPk; omega
    · exact hp k hPk (.inr (.inr (.inl hf)))
    · rcases insT_mem t' ts t ht with rfl | ht
      · have := hfr2 k hf; have := hP k hPk; omega
      · exact hp k hPk (.inr (.inr (.inr ⟨t, ht, hf⟩)))
  · exact ⟨(h2 hc).mono hB, stay_of_below (h2 hc), ts, ⟨va, vs, hq.below (h2 hc), hp⟩, fun _ => rfl, fun h => absurd h hc⟩
def DropL (B : Nat) (P : Nat → Prop) (w w' : World) (g : Nat) (ts : List Tk) (sizes : List Int) (x : Int) (e : Ending) : Prop :=
  (ts.find? (fun t => t.id == x) = none ∧ e = .returned (.tuple #[.agg #[.int .u32 0, .int .i64 0, .slice none 0 0, .int .i64 0, .int .i64 0], .bool false]) ∧ Below B w w' ∧ StayP P w w' ∧ QL B P w' g ts sizes) ∨
  ∃ k t A c, k < ts.length ∧ t = ts.getD k Tk.zero ∧ ts.find? (fun t => t.id == x) = some t ∧ e = .returned (.tuple #[.agg #[.int .u32 t.id, .int .i64 t.mode, .slice A t.pl.length c, .int .i64 t.rating, .int .i64 t.since], .bool true]) ∧ Below B w w' ∧ StayP P w w' ∧ QL B P w' g (ts.eraseIdx k) sizes ∧ t.pl.length ≤ 8 ∧
    OwnN w' B 33 .u32 (.slice A t.pl.length c) t.pl ∧ ∀ j, (Value.slice A t.pl.length c).ownBlock = some j → j < w.heap.size ∧ ¬ P j
theorem drop_law (B g : Nat) (P : Nat → Prop) (ts : List Tk) (sizes : List Int) (x : Int) (w : World) (hq : QL B P w g ts sizes) :
    Calls Try.prog 18 #[.pointer (some ⟨g, 0, none⟩), .int .u32 x] w fun e w' => DropL B P w w' g ts sizes x e := by
  have hB := hq.size
  obtain ⟨va, vs, hq, hp⟩ := hq
  refine (drop_some B g va vs ts sizes x w hq).mono ?_
  rintro e w' (⟨h1, h2, h3⟩ | ⟨k, hk, h1, _, h2, va', h3, h4, h5⟩)
  · exact .inl ⟨h1, h2, h3.mono hB, stay_of_below h3, va, vs, hq.below h3, hp⟩
  · obtain ⟨t, ht⟩ : ∃ t, t = ts.getD k Tk.zero := ⟨_, rfl⟩
    rw [← ht] at h1 h2
    have htm : t ∈ ts := by rw [ht]; exact getD_mem _ _ _ hk
    have ho := hq.pls t htm
    obtain ⟨A, c, hpv, _⟩ := ho.shows.form
    have ho2 : OwnN w' B 33 .u32 t.pv t.pl := by
      refine own_kept ho h4 ?_
      intro j hj hs
      rcases hs with rfl | hs
      · exact own_ne ho hq.blk (by decide) _ hj rfl
      · obtain ⟨c1, b1, _⟩ := own_blk ho hj
        obtain ⟨c2, b2, _⟩ := own_blk hq.all hs
        exact absurd rfl (b1.ne b2 (by decide))
    refine .inr ⟨k, t, A, c, hk, ht, h1, by rw [h2, hpv], below_of_touch hq h4, stay_of_touch hq hp h4, ⟨va', vs, h3, ?_⟩, hq.few t htm, ?_, ?_⟩
    · intro k2 hk2 hf
      rcases hf with rfl | hf | hf | ⟨t2, ht2, hf⟩
      · exact hp _ hk2 (.inl rfl)
      · exact hp k2 hk2 (.inr (.inl (by rw [← h5]; exact hf)))
      · exact hp k2 hk2 (.inr (.inr (.inl hf)))
      · exact hp k2 hk2 (.inr (.inr (.inr ⟨t2, List.mem_of_mem_eraseIdx ht2, hf⟩)))
    · rw [hpv] at ho2
      exact ho2
    · intro j hj
      rw [← hpv] at hj
      exact ⟨own_lt ho hj, fun hP => hp j hP (.inr (.inr (.inr ⟨t, htm, hj⟩)))⟩
theorem mode_law (B g : Nat) (P : Nat → Prop) (ts : List Tk) (sizes : List Int) (m : Int) (w : World) (hq : QL B P w g ts sizes) (hmany : ts.length ≤ 1000) :
    Calls Try.prog 12 #[.pointer (some ⟨g, 0, none⟩), .int .i64 m] w fun e w' => ModeRes w w' (ts.filter (fun t => t.mode == m)) e := by
  obtain ⟨va, vs, hq, _⟩ := hq
  exact mode_some B g va vs ts sizes m w hq hmany
theorem get_law (B g : Nat) (P : Nat → Prop) (ts : List Tk) (sizes : List Int) (x : Int) (w : World) (hq : QL B P w g ts sizes) :
    Calls Try.prog 23 #[.pointer (some ⟨g, 0, none⟩), .int .u32 x] w fun e w' => GotCopy w w' (ts.find? (fun t => t.id == x)) e := by
  obtain ⟨va, vs, hq, _⟩ := hq
  exact get_some B g va vs ts sizes x w hq
theorem of_law (B g : Nat) (P : Nat → Prop) (ts : List Tk) (sizes : List Int) (x : Int) (w : World) (hq : QL B P w g ts sizes) :
    Calls Try.prog 14 #[.pointer (some ⟨g, 0, none⟩), .int .u32 x] w fun e w' => e = .returned (.int .u32 (idOf (ts.find? (fun t => decide (x ∈ t.pl))))) ∧ Below w.heap.size w w' := by
  obtain ⟨va, vs, hq, _⟩ := hq
  exact of_some B g va vs ts sizes x w hq
theorem len_law (B g : Nat) (P : Nat → Prop) (ts : List Tk) (sizes : List Int) (w : World) (hq : QL B P w g ts sizes) :
    Calls Try.prog 15 #[.pointer (some ⟨g, 0, none⟩)] w fun e w' => e = .returned (.int .i64 ts.length) ∧ w = w' := by
  obtain ⟨va, vs, hq, _⟩ := hq
  exact len_some B g va vs ts sizes w hq
theorem usual_new (w : World) (v : Value) (ms : List Md) (hs : ShowsM w v ms) (hmany : ms.length ≤ 1000) : Calls Try.prog 8 #[usualV v] w fun e w' => ∃ g, e = .returned (.pointer (some ⟨g, 0, none⟩)) ∧ QL w.heap.size nop w' g [] (ms.map Md.k) ∧ Below w.heap.size w w' := by
  refine (new_any w _ _ _ _ _ _ _ _ _ _ _ _ _ rfl rfl rfl rfl rfl rfl rfl rfl rfl rfl rfl rfl rfl v ms hs hmany).mono ?_
  rintro e w' ⟨g, vs, rfl, h, hb⟩
  exact ⟨g, rfl, ⟨_, vs, h, fun _ c => c.elim⟩, hb⟩
theorem shows_new1 (w : World) (t : TypeId) (x : Int) : Shows (w.alloc (.cells #[.int .u32 x] t)) .u32 (.slice (some ⟨w.heap.size, 0, none⟩) 1 1) [x] := by
  have h : Blk (w.alloc (.cells #[.int .u32 x] t)) w.heap.size _ _ := heap_alloc_new w _
  refine .inr ⟨w.heap.size, 0, 1, rfl, Nat.le_refl _, by unfold maxLen; omega, h.lt, fun j hj => ?_⟩
  have hj0 : j = 0 := by simpa using hj
  subst hj0
  simp [h.cell 0]
theorem shows_new2 (w : World) (t : TypeId) (x y : Int) : Shows (w.alloc (.cells #[.int .u32 x, .int .u32 y] t)) .u32 (.slice (some ⟨w.heap.size, 0, none⟩) 2 2) [x, y] := by
  have h : Blk (w.alloc (.cells #[.int .u32 x, .int .u32 y] t)) w.heap.size _ _ := heap_alloc_new w _
  refine .inr ⟨w.heap.size, 0, 2, rfl, Nat.le_refl _, by unfold maxLen; omega, h.lt, fun j hj => ?_⟩
  have hj0 : j = 0 ∨ j = 1 := by simp at hj; omega
  rcases hj0 with rfl | rfl
  · simp [h.cell 0]
  · simp [h.cell 1]
theorem key_is {t : Tk} {a b d e : Int} {c : List Int} (h : t.key = (a, b, c, d, e)) : t = ⟨a, b, t.pv, c, d, e⟩ := by
  obtain ⟨i, m, pv, pl, r, s⟩ := t
  simp only [Tk.key, Prod.mk.injEq] at h
  obtain ⟨rfl, rfl, rfl, rfl, rfl⟩ := h
  rfl
theorem awake1 (pv : Value) : putCode [] [2] ⟨5, 0, pv, [1], 0, 9⟩ = 0 := by rfl
theorem awake2 (p1 pv : Value) : putCode [⟨5, 0, p1, [1], 0, 9⟩] [2] ⟨3, 0, pv, [2], 0, 9⟩ = 0 := by rfl
theorem awake3 (p2 p1 pv : Value) : putCode [⟨3, 0, p2, [2], 0, 9⟩, ⟨5, 0, p1, [1], 0, 9⟩] [2] ⟨4, 0, pv, [3, 4], 0, 7⟩ = 0 := by rfl
theorem awakeB (p3 p2 p1 : Value) : insT ⟨3, 0, p2, [2], 0, 9⟩ [⟨5, 0, p1, [1], 0, 9⟩] = [⟨3, 0, p2, [2], 0, 9⟩, ⟨5, 0, p1, [1], 0, 9⟩] ∧ insT ⟨4, 0, p3, [3, 4], 0, 7⟩ [⟨3, 0, p2, [2], 0, 9⟩, ⟨5, 0, p1, [1], 0, 9⟩] = [⟨4, 0, p3, [3, 4], 0, 7⟩, ⟨3, 0, p2, [2], 0, 9⟩, ⟨5, 0, p1, [1], 0, 9⟩] := ⟨rfl, rfl⟩
set_option maxHeartbeats 3200000 in
set_option maxRecDepth 100000 in
theorem awake_any (w : World) : Calls Try.prog 16 #[] w fun e w' => e = .returned (.bool true) ∧ Below w.heap.size w w' := by
  go_enter Try.func16, Try.ntmps16
  go_wp2_with fail
  refine (usual_any _ w.heap.size 1 [⟨2, 0, 0, 0, 1⟩] (heap_alloc_new w _) (by decide)).mono ?_
  rintro e w1 ⟨v', rfl, hsm, hb1⟩
  have HB1 : Hid (Below w.heap.size w w1) := ((Below.refl _ _).alloc (Nat.le_refl _) _).trans (hb1.mono (by simp))
  have HSM := Lib.hid hsm
  clear hb1 hsm
  go_wp2_with fail
  refine (usual_new w1 v' _ HSM.out (by decide)).mono ?_
  rintro e w2 ⟨g, rfl, hq, hb2⟩
  have HQ2 : Hid (QL w.heap.size nop w2 g [] [2]) := hq.mono HB1.out.size
  have HB2 : Hid (Below w.heap.size w w2) := HB1.out.trans (hb2.mono HB1.out.size)
  clear hq hb2 HB1 HSM
  go_wp2_with fail
  refine (put_law w.heap.size g nop [] [2] 5 0 0 9 _ [1] _ (HQ2.out.below ((Below.refl _ _).alloc (Nat.le_refl _) _)) (fun _ c => c.elim) (shows_new1 w2 _ 1) (by decide) (by decide) List.Pairwise.nil).mono ?_
  rintro e w3 ⟨rfl, hb3, _, ts3, hq3, _, h3⟩
  obtain ⟨t3, hk3, rfl⟩ := h3 (awake1 _)
  have HQ3 : Hid (QL w.heap.size nop w3 g [⟨5, 0, t3.pv, [1], 0, 9⟩] [2]) := by rw [key_is hk3] at hq3; exact hq3
  have HB3 : Hid (Below w.heap.size w w3) := (HB2.out.alloc HB2.out.size _).trans hb3
  rw [awake1]
  clear h3 hk3 hq3 hb3 HB2 HQ2
  generalize t3.pv = p3 at HQ3
  go_wp2_with fail
  refine (put_law w.heap.size g nop _ [2] 3 0 0 9 _ [2] _ (HQ3.out.below ((Below.refl _ _).alloc (Nat.le_refl _) _)) (fun _ c => c.elim) (shows_new1 w3 _ 2) (by decide) (by simp) (List.pairwise_singleton _ _)).mono ?_
  rintro e w4 ⟨rfl, hb4, _, ts4, hq4, _, h4⟩
  obtain ⟨t4, hk4, rfl⟩ := h4 (awake2 _ _)
  have HQ4 : Hid (QL w.heap.size nop w4 g [⟨3, 0, t4.pv, [2], 0, 9⟩, ⟨5, 0, p3, [1], 0, 9⟩] [2]) := by rw [key_is hk4, (awakeB p3 _ _).1] at hq4; exact hq4
  have HB4 : Hid (Below w.heap.size w w4) := (HB3.out.alloc HB3.out.size _).trans hb4
  rw [awake2]
  clear h4 hk4 hq4 hb4 HB3 HQ3
  generalize t4.pv = p4 at HQ4
  go_wp2_with fail
  refine (put_law w.heap.size g nop _ [2] 4 0 0 7 _ [3, 4] _ (HQ4.out.below ((Below.refl _ _).alloc (Nat.le_refl _) _)) (fun _ c => c.elim) (shows_new2 w4 _ 3 4) (by decide) (by simp) (by simp [SortedT, ordT_neg])).mono ?_
  rintro e w5 ⟨rfl, hb5, _, ts5, hq5, _, h5⟩
  obtain ⟨t5, hk5, rfl⟩ := h5 (awake3 _ _ _)
  have HQ5 : Hid (QL w.heap.size nop w5 g [⟨4, 0, t5.pv, [3, 4], 0, 7⟩, ⟨3, 0, p4, [2], 0, 9⟩, ⟨5, 0, p3, [1], 0, 9⟩] [2]) := by rw [key_is hk5, (awakeB _ _ _).2] at hq5; exact hq5
  have HB5 : Hid (Below w.heap.size w w5) := (HB4.out.alloc HB4.out.size _).trans hb5
  rw [awake3]
  clear h5 hk5 hq5 hb5 HB4 HQ4
  generalize t5.pv = p5 at HQ5
  go_wp2_with fail
  refine (mode_law w.heap.size g nop _ [2] 0 w5 HQ5.out (by simp)).mono ?_
  rintro e w6 ⟨v6, ts6, rfl, hor, hkeys, hb6⟩
  have HB6 : Hid (Below w.heap.size w w6) := HB5.out.trans (hb6.mono HB5.out.size)
  obtain ⟨x, y, z, rfl⟩ : ∃ x y z, ts6 = [x, y, z] := by
    have h := congrArg List.length hkeys
    simp at h
    match ts6, h with
    | [x, y, z], _ => exact ⟨x, y, z, rfl⟩
  obtain ⟨k1, k2, k3⟩ : x.id = 4 ∧ y.id = 3 ∧ z.id = 5 := by
    simp [Tk.key] at hkeys
    exact ⟨hkeys.1.1, hkeys.2.1.1, hkeys.2.2.1⟩
  rcases own_trow hor.row with ⟨_, h0⟩ | ⟨b, c, rfl, hm, hlt, ht⟩
  · cases h0
  have d0 := ht.c0 0 (by simp)
  have d1 := ht.c0 1 (by simp)
  have d2 := ht.c0 2 (by simp)
  simp [k1, k2, k3] at d0 d1 d2
  clear hor hkeys hb6 HB5 HQ5 ht k1 k2 k3
  go_wp2_with fail
  go_ret
  exact ⟨rfl, HB6.out⟩
end Go.Proofs.Ytlkpmlcmgggifaa
namespace Go.Proofs.Ytlkpmlcmgggifaa
open Go.RowKit
/-- v shows the document's tickets ts. -/
def ArgT (w : World) (v : Value) (ts : List Tk) : Prop :=
  (ts = [] ∧ ∃ A c, v = .slice A 0 c) ∨ ∃ b off c, v = .slice (some ⟨b, off, none⟩) ts.length c ∧ ts.length ≤ maxLen ∧ b < w.heap.size ∧ TRow w b off ts.length ts ∧ ∀ t ∈ ts, ShowsA w .u32 t.pv t.pl
theorem ArgT.form {w : World} {v : Value} {ts : List Tk} (h : ArgT w v ts) : ∃ A c, v = .slice A ts.length c := by
  rcases h with ⟨rfl, h⟩ | ⟨b, off, c, rfl, _⟩
  · exact h
  · exact ⟨_, c, rfl⟩
/-- one of them, in a later world -/
theorem ArgT.at {w w' : World} {A : Option Addr} {n c : Nat} {ts : List Tk} (h : ArgT w (.slice A n c) ts) (hb : Below w.heap.size w w') {k : Nat} (hk : k < n) :
    ∃ b off, A = some ⟨b, off, none⟩ ∧ ∃ id mode PA pn pc pl rating since, pn = pl.length ∧ ShowsA w' .u32 (.slice PA pn pc) pl ∧ ts.getD k Tk.zero = ⟨id, mode, .slice PA pn pc, pl, rating, since⟩ ∧
      w'.cell? ⟨b, off + k * 5, none⟩ = some (.int .u32 id) ∧ w'.cell? ⟨b, off + k * 5 + 1, none⟩ = some (.int .i64 mode) ∧ w'.cell? ⟨b, off + k * 5 + 2, none⟩ = some (.slice PA pn pc) ∧ w'.cell? ⟨b, off + k * 5 + 3, none⟩ = some (.int .i64 rating) ∧ w'.cell? ⟨b, off + k * 5 + 4, none⟩ = some (.int .i64 since) := by
  rcases h with ⟨_, A', c', e⟩ | ⟨b, off, c', e, hm, hlt, ht, hp⟩
  · simp only [Value.slice.injEq] at e
    omega
  · simp only [Value.slice.injEq] at e
    obtain ⟨rfl, rfl, rfl⟩ := e
    refine ⟨b, off, rfl, ?_⟩
    have htm : ts.getD k Tk.zero ∈ ts := getD_mem _ _ _ hk
    have hs := (hp _ htm).below hb
    have ht' := ht.below hb
    have h0 := ht'.c0 k hk
    have h1 := ht'.c1 k hk
    have h2 := ht'.c2 k hk
    have h3 := ht'.c3 k hk
    have h4 := ht'.c4 k hk
    revert hs h0 h1 h2 h3 h4
    generalize ts.getD k Tk.zero = t
    obtain ⟨id, mode, pv, pl, rating, since⟩ := t
    intro hs h0 h1 h2 h3 h4
    obtain ⟨PA, pc, e⟩ := hs.form
    simp only at e
    subst e
    exact ⟨id, mode, PA, pl.length, pc, pl, rating, since, rfl, hs, rfl, h0, h1, h2, h3, h4⟩
theorem sizes24 : ([⟨2, 0, 0, 0, 0⟩, ⟨4, 0, 0, 0, 0⟩] : List Md).map Md.k = [2, 4] := rfl
theorem tk_eta (t : Tk) : t = ⟨t.id, t.mode, t.pv, t.pl, t.rating, t.since⟩ := rfl
theorem put_inv {ts ts' : List Tk} {sizes : List Int} {t : Tk} (hI : Inv ts sizes) (h1 : putCode ts sizes t ≠ 0 → ts' = ts) (h2 : putCode ts sizes t = 0 → ∃ t', t'.key = t.key ∧ ts' = insT t' ts) : Inv ts' sizes ∧ ts'.length ≤ ts.length + 1 := by
  by_cases hc : putCode ts sizes t = 0
  · obtain ⟨t', hk, rfl⟩ := h2 hc
    exact ⟨hI.ins hc hk, by rw [insT_len]; exact Nat.le_refl _⟩
  · rw [h1 hc]; exact ⟨hI, by omega⟩
theorem find_erased {ts : List Tk} {sizes : List Int} (hI : Inv ts sizes) {k : Nat} (hk : k < ts.length) {t : Tk} (ht : t = ts.getD k Tk.zero) {x : Int} (hx : ts.find? (fun y => y.id == x) = some t) : (ts.eraseIdx k).find? (fun y => y.id == x) = none := by
  obtain ⟨e1, e2⟩ := split_at hk
  have hid : t.id = x := by simpa using List.find?_some hx
  have hi := hI.ids
  rw [e1, ← ht] at hi
  obtain ⟨i1, i2, i3⟩ := List.pairwise_append.1 hi
  obtain ⟨i4, _⟩ := List.pairwise_cons.1 i2
  rw [e2, List.find?_eq_none]
  intro y hy
  rcases List.mem_append.1 hy with hy | hy
  · have := i3 y hy t (by simp)
    simpa [← hid] using this
  · have := i4 y hy
    simpa [← hid] using fun e => this e.symm
theorem ORow.mono {w : World} {base base' : Nat} {v : Value} {ts : List Tk} (h : ORow w base v ts) (hb : base' ≤ base) : ORow w base' v ts := ⟨own_mono h.row hb, fun t ht => own_mono (h.pls t ht) hb⟩
theorem ORow.form {w : World} {base : Nat} {v : Value} {ts : List Tk} (h : ORow w base v ts) : ∃ A c, v = .slice A ts.length c := by
  rcases own_trow h.row with ⟨rfl, rfl⟩ | ⟨b, c, rfl, _⟩
  · exact ⟨none, 0, rfl⟩
  · exact ⟨_, c, rfl⟩
theorem cell_lt {w : World} {b o : Nat} {v : Value} (h : w.cell? ⟨b, o, none⟩ = some v) : b < w.heap.size := by
  rcases Nat.lt_or_ge b w.heap.size with h1 | h1
  · exact h1
  · rw [World.cell?, Array.getElem?_eq_none h1] at h
    cases h
theorem ORow.arg {w : World} {base : Nat} {v : Value} {ts : List Tk} (h : ORow w base v ts) : ArgT w v ts := by
  rcases own_trow h.row with ⟨rfl, rfl⟩ | ⟨b, c, rfl, hm, hlt, ht⟩
  · exact .inl ⟨rfl, _, _, rfl⟩
  · exact .inr ⟨b, 0, c, rfl, hm, hlt, ht, fun t ht => .inl (h.pls t ht).shows⟩
theorem keys_at {ts us : List Tk} (h : ts.map Tk.key = us.map Tk.key) (k : Nat) : (ts.getD k Tk.zero).key = (us.getD k Tk.zero).key := by
  have := congrArg (fun l => l[k]?) h
  simp only [List.getElem?_map] at this
  simp only [List.getD_eq_getElem?_getD]
  cases h1 : ts[k]? <;> cases h2 : us[k]? <;> simp_all
theorem find_keys {ts us : List Tk} (h : us.map Tk.key = ts.map Tk.key) {x : Int} {t : Tk} (ht : ts.find? (fun y => y.id == x) = some t) : ∃ t', us.find? (fun y => y.id == x) = some t' ∧ t'.key = t.key := by
  induction ts generalizing us with
  | nil => simp at ht
  | cons y r ih =>
    cases us with
    | nil => simp at h
    | cons z us =>
      simp only [List.map_cons, List.cons.injEq] at h
      have hid : z.id = y.id := by simpa [Tk.key] using congrArg (·.1) h.1
      by_cases hy : y.id == x
      · rw [List.find?_cons_of_pos (by simpa using hy)] at ht
        obtain rfl := Option.some.inj ht
        exact ⟨z, List.find?_cons_of_pos (by simpa [hid] using hy), h.1⟩
      · rw [List.find?_cons_of_neg (by simpa using hy)] at ht
        obtain ⟨t', h1, h2⟩ := ih h.2 ht
        exact ⟨t', by rw [List.find?_cons_of_neg (by simpa [hid] using hy)]; exact h1, h2⟩
/-- What stands while the players that were told are written over. -/
structure AgainSt (w W : World) (g b7 b10 : Nat) (P : Nat → Prop) (ts : List Tk) (T X : Array Value) (A5 : Option Addr) (n5 : Nat) (v8 : Value) (pl : List Int) : Prop where
  t : Blk W b7 T 39
  x : Blk W b10 X 39
  q : QL w.heap.size P W g ts [2, 4]
  o : OwnN W w.heap.size 33 .u32 v8 pl
  b : Below w.heap.size w W
  r : ∀ b5, A5 = some ⟨b5, 0, none⟩ → ∃ cur : List Value, Blk W b5 cur.toArray 33 ∧ n5 ≤ cur.length
theorem AgainSt.set {w W : World} {g b7 b10 : Nat} {P : Nat → Prop} {ts : List Tk} {T X : Array Value} {n5 b5 : Nat} {v8 : Value} {pl : List Int} (h : AgainSt w W g b7 b10 P ts T X (some ⟨b5, 0, none⟩) n5 v8 pl) (hP : P b5) (hw : w.heap.size ≤ b5) (h8 : ∀ j, v8.ownBlock = some j → j ≠ b5) (j : Nat) (u : Value) : AgainSt w (W.setCell ⟨b5, j, none⟩ u) g b7 b10 P ts T X (some ⟨b5, 0, none⟩) n5 v8 pl := by
  obtain ⟨cur, hc, hl⟩ := h.r b5 rfl
  have hk : Kept W (W.setCell ⟨b5, j, none⟩ u) (fun i => i = b5) := Kept.setCell (S := fun i => i = b5) (Kept.refl _ _) (fun _ => rfl) u
  refine ⟨h.t.kept hk (h.t.ne hc (by decide)), h.x.kept hk (h.x.ne hc (by decide)), h.q.setCell hP u, own_kept h.o hk h8, h.b.setCell hw u, ?_⟩
  intro b he
  have : b5 = b := by injection he with he; injection he
  subst this
  exact ⟨_, blk_setCell hc j u, by simpa using hl⟩
def TrueRes (w w' : World) (e : Ending) : Prop := e = .returned (.bool true) ∧ Below w.heap.size w w'
end Go.Proofs.Ytlkpmlcmgggifaa
