/- A ticket's own copy; Get, Of, Len. -/
import Derived.Test.YtlkpmlcmgggifaaQc
import Derived.Laws.CopyOwn
set_option linter.unusedVariables false
set_option linter.unusedSimpArgs false
namespace Go.Proofs.Ytlkpmlcmgggifaa
open Go.RowKit
theorem info33 : (Try.prog.info? 33).map (fun i => (i.zero, i.size, i.bytes)) = some (some (.int .u32 0), 1, 4) := by kernel_rfl
theorem size33 : (Try.prog.info? 33).map (·.size) = some 1 := by kernel_rfl
theorem Shows.form {w : World} {k : IntKind} {v : Value} {xs : List Int} (h : Shows w k v xs) : ∃ A c, v = .slice A xs.length c ∧ (0 < xs.length → ∃ ad, A = some ad ∧ ad.block < w.heap.size ∧ ∀ j u, (xs.map (Value.int k))[j]? = some u → w.cell? (ad.add j) = some u) := by
  rcases h with ⟨rfl, rfl⟩ | ⟨b, off, c, rfl, hlc, hm, hlt, hc⟩
  · exact ⟨none, 0, rfl, fun h => by simp at h⟩
  · refine ⟨_, c, rfl, fun _ => ⟨_, rfl, hlt, fun j u hu => ?_⟩⟩
    have hj : j < xs.length := by have := (List.getElem?_eq_some_iff.1 hu).1; simpa using this
    have e : (⟨b, off, none⟩ : Addr).add j = ⟨b, off + j, none⟩ := by unfold Addr.add; split <;> simp_all
    rw [e, hc j hj]
    simp [hj] at hu
    simp [List.getD, hj, hu]
theorem info_u32_zero : Value.cells (.int .u32 0) = #[.int .u32 0] := rfl
/-- The copy behind 'own'. -/
def Copied (w w' : World) (pl : List Int) (e : Ending) (id mode rating since : Int) : Prop :=
  ∃ pv', e = .returned (.agg #[.int .u32 id, .int .i64 mode, pv', .int .i64 rating, .int .i64 since]) ∧ OwnN w' w.heap.size 33 .u32 pv' pl ∧ Below w.heap.size w w'
theorem two_blk (w : World) (a b : Array Value) (t u : TypeId) : Blk ((w.alloc (.cells a t)).alloc (.cells b u)) w.heap.size a t ∧ Blk ((w.alloc (.cells a t)).alloc (.cells b u)) (w.heap.size + 1) b u :=
  ⟨heap_alloc2_old w (.cells a t) (.cells b u), heap_alloc2_new w (.cells a t) (.cells b u)⟩
theorem below_two (w : World) (o o' : Obj) : Below w.heap.size w ((w.alloc o).alloc o') := ((Below.refl _ _).alloc (Nat.le_refl _) _).alloc (by simp) _
theorem below_of_none {w w' : World} (h : w.grownBy w' none) : Below w.heap.size w w' := (Below.refl _ _).grown h (Nat.le_refl _) (fun k e => by cases e)
theorem blk_rule {w : World} {g : Nat} {cs : Array Value} {t : TypeId} (h : Blk w g cs t) : (∀ j, w.cell? ⟨g, j, none⟩ = cs[j]?) ∧ (∀ j, w.frozen? ⟨g, j, none⟩ = false) := ⟨h.cell, h.frozen⟩
theorem own_full {w : World} {base : Nat} {e : TypeId} {n g : Nat} {xs : List Value} (hb : base ≤ g) (hg : w.heap[g]? = some (.cells xs.toArray e (0, 0))) (hx : xs.length = n) (hm : n ≤ maxLen) : w.ownsRow base e 1 (.slice (some ⟨g, 0, none⟩) n n) n xs :=
  ⟨by simpa using hx, .inr ⟨g, n, xs.toArray, rfl, hb, hg, Nat.le_refl _, hm, by simp [hx], by rw [Nat.mul_one, ← hx]; simp⟩⟩
theorem own_full_inv {w : World} {base : Nat} {e : TypeId} {n g : Nat} {xs : List Value} (h : w.ownsRow base e 1 (.slice (some ⟨g, 0, none⟩) n n) n xs) : w.heap[g]? = some (.cells xs.toArray e (0, 0)) := by
  rcases h.2 with ⟨h2, _⟩ | ⟨g', cap, cur, hv, hb, hgg, hnc, hcm, hcs, ht⟩
  · cases h2
  · simp only [Value.slice.injEq, Option.some.injEq, Addr.mk.injEq] at hv
    obtain ⟨⟨rfl, _⟩, _, rfl⟩ := hv
    rw [hgg, ← ht, List.take_of_length_le (by simp; omega)]
    try simp
theorem Addr.add_block (a : Addr) (j : Nat) : (a.add j).block = a.block := by unfold Addr.add; split <;> rfl
theorem made_u32 (n : Nat) : (madeCells (Value.int .u32 0).cells (n * 1)).toList = List.replicate n (.int .u32 0) := by rw [Nat.mul_one]; exact toList_madeCells_one _ _
theorem splice_all {α : Type} (xs ys : List α) (h : ys.length = xs.length) : splice xs 0 ys = ys := by simp [splice, h]
set_option maxHeartbeats 1600000 in
set_option maxRecDepth 100000 in
theorem own_any (id mode rating since : Int) (pv : Value) (pl : List Int) (w : World) (hs : Shows w .u32 pv pl) (hf : pl.length ≤ 8) :
    Calls Try.prog 56 #[.agg #[.int .u32 id, .int .i64 mode, pv, .int .i64 rating, .int .i64 since]] w fun e w' => Copied w w' pl e id mode rating since := by
  obtain ⟨i0, hi, hz0, hz1, hz2⟩ := info_parts info33
  obtain ⟨A, c, rfl, hA⟩ := hs.form
  clear hs
  have HA := Lib.hid hA
  clear hA
  obtain ⟨n, hn⟩ : ∃ n, n = pl.length := ⟨_, rfl⟩
  rw [← hn] at hf ⊢
  have HN := Lib.hid hn
  clear hn
  have HI := Lib.hid hi
  have HZ0 := Lib.hid hz0
  have HZ1 := Lib.hid hz1
  have HZ2 := Lib.hid hz2
  clear hi hz0 hz1 hz2
  go_enter Try.func56, Try.ntmps56
  go_wp2_with (first
    | (at_make; refine wpList_make_full _ rfl (.tmp 6) (.tmp 6) 34 rfl w.heap.size 33 i0 _ 1 Try.underlying34 HI.out HZ0.out HZ1.out .i64 .i64 n n n rfl rfl rfl rfl (by rw [HZ2.out]; omega) (by unfold maxLen; omega) (by simp; omega) ?_; intro w1 hown hg
       obtain ⟨bA, bR⟩ := two_blk w #[.int .u32 id, .int .i64 mode, .slice A n c, .int .i64 rating, .int .i64 since] #[.int .u32 0, .int .i64 0, .slice none 0 0, .int .i64 0, .int .i64 0] 39 39
       have B1 := Lib.hid ((below_two w _ _).trans ((below_of_none hg).mono (by simp; omega)))
       have hA1 := bA.below (below_of_none hg)
       have hR1 := bR.below (below_of_none hg)
       have OWN := Lib.hid hown
       obtain ⟨cA, fA⟩ := blk_rule hA1
       have HA1 := Lib.hid hA1
       have HR1 := Lib.hid hR1
       clear hown hg bA bR hA1 hR1)
    | (with_reducible refine wpList_copy_splice rfl (.tmp 8) (.tmp 10) 34 34 rfl 33 Try.underlying34 size33 _ _ n n n c rfl rfl (w.heap.size + 2) 0 (List.replicate n (.int .u32 0)) 33 ?hgrow (pl.map (Value.int .u32)) ?hlen ?hpos ?hfit ?hone (w.heap.size + 2) w1 (Below.refl _ _) (Nat.le_refl _) ?hK))
  case hgrow =>
    have h := OWN.out
    simp only [World.size_alloc] at h
    rw [made_u32] at h
    exact own_full_inv h
  case hlen => simp [← HN.out]
  case hpos =>
    intro h
    obtain ⟨ad, h1, h2, h3⟩ := HA.out (by simpa using h)
    refine ⟨ad, h1, fun j a hj => ?_⟩
    rw [B1.out.cell (by rw [Addr.add_block]; exact h2)]
    exact h3 j _ (by simpa using hj)
  case hfit => simp [← HN.out]
  case hone =>
    intro v hv
    obtain ⟨x, _, rfl⟩ := List.mem_map.1 hv
    rfl
  case hK =>
    intro w2 hg2 hb2
    have hA2 : Blk w2 w.heap.size _ _ := (hb2.block w.heap.size (by omega)).trans HA1.out
    have hR2 : Blk w2 (w.heap.size + 1) _ _ := (hb2.block (w.heap.size + 1) (by omega)).trans HR1.out
    obtain ⟨cA2, fA2⟩ := blk_rule hA2
    obtain ⟨cR2, fR2⟩ := blk_rule hR2
    have B2 := Lib.hid (B1.out.trans (hb2.mono (by omega)))
    have HZ := Lib.hid (show w.heap.size + 2 < w2.heap.size from (Array.getElem?_eq_some_iff.1 hg2.out).1)
    clear cA fA HA1 HR1 OWN hA2 hR2 B1 hb2
    go_wp2
    refine bodyPost_ret (v := .agg #[.int .u32 id, .int .i64 mode, .slice (some ⟨w.heap.size + 2, 0, none⟩) n n, .int .i64 rating, .int .i64 since]) ?_ rfl ?_
    · simp [results, Try.results56, go_sem, cR2]
    · have hz := HZ.out
      have hb : Below w.heap.size w ((((((w2.setCell ⟨w.heap.size, 2, none⟩ (.slice (some ⟨w.heap.size + 1 + 1, 0, none⟩) n n)).setCell ⟨w.heap.size + 1, 0, none⟩ (.int .u32 id)).setCell ⟨w.heap.size + 1, 1, none⟩ (.int .i64 mode)).setCell ⟨w.heap.size + 1, 2, none⟩
          (.slice (some ⟨w.heap.size + 1 + 1, 0, none⟩) n n)).setCell ⟨w.heap.size + 1, 3, none⟩ (.int .i64 rating)).setCell ⟨w.heap.size + 1, 4, none⟩ (.int .i64 since)) :=
        (((((B2.out.setCell (by simp) _).setCell (by simp) _).setCell (by simp) _).setCell (by simp) _).setCell (by simp) _).setCell (by simp) _
      refine ⟨_, rfl, ?_, hb⟩
      have h2 := hg2.out
      rw [splice_all _ _ (by simp [← HN.out])] at h2
      rw [HN.out]
      refine own_full (by omega) ?_ (by simp) (by rw [← HN.out]; unfold maxLen; omega)
      rw [Below.heap_setCell _ _ _ _ (by simp), Below.heap_setCell _ _ _ _ (by simp), Below.heap_setCell _ _ _ _ (by simp), Below.heap_setCell _ _ _ _ (by simp), Below.heap_setCell _ _ _ _ (by simp), Below.heap_setCell _ _ _ _ (by simp)]
      exact h2
end Go.Proofs.Ytlkpmlcmgggifaa
