/- Drop; a queue that is not there. -/
import Derived.Test.YtlkpmlcmgggifaaQn
set_option linter.unusedVariables false
set_option linter.unusedSimpArgs false
namespace Go.Proofs.Ytlkpmlcmgggifaa
open Go.RowKit
theorem del_cells (ts : List Tk) (k : Nat) (hk : k < ts.length) : (ts.flatMap Tk.cs).take (k * 5) ++ (ts.flatMap Tk.cs).drop ((k + 1) * 5) = (ts.eraseIdx k).flatMap Tk.cs := by
  rw [(flat_take ts k (by omega)).1, (flat_take ts (k + 1) (by omega)).2, List.eraseIdx_eq_take_drop_succ, List.flatMap_append]
def DropDone (w w' : World) (base g : Nat) (va vs : Value) (ts : List Tk) (sizes : List Int) (k : Nat) : Prop :=
  ∃ va', QRep w' base g va' vs (ts.eraseIdx k) sizes ∧ Kept w w' (fun j => j = g ∨ va.ownBlock = some j) ∧ va'.ownBlock = va.ownBlock
def DropTail (w1 w : World) (base g : Nat) (va vs : Value) (ts : List Tk) (sizes : List Int) (k : Nat) (e : Ending) : Prop :=
  ∃ A c, e = .returned (.slice A (ts.length - 1) c) ∧ w1.cell? ⟨g, 0, none⟩ = some va ∧ w1.frozen? ⟨g, 0, none⟩ = false ∧ Kept w w1 (fun j => va.ownBlock = some j) ∧ DropDone w (w1.setCell ⟨g, 0, none⟩ (.slice A (ts.length - 1) c)) base g va vs ts sizes k
theorem drop_tail (w : World) (base g : Nat) (va vs : Value) (ts : List Tk) (sizes : List Int) (k : Nat) (hQ : QRep w base g va vs ts sizes) (hk : k < ts.length) :
    Calls Try.prog 64 #[va, .int .i64 k, .int .i64 ((k : Int) + 1)] w (fun e w1 => DropTail w1 w base g va vs ts sizes k e) := by
  rw [show (k : Int) + 1 = ((k + 1 : Nat) : Int) by omega]
  refine (tk_delete w base ts.length k va (ts.flatMap Tk.cs) hQ.all hk (flat_one hQ.pls)).mono ?_
  rintro e w1 ⟨v', rfl, hrow, hkept, hsame⟩
  have hgne : ∀ j, va.ownBlock = some j → j ≠ g := fun j e => own_ne hQ.all hQ.blk (by decide) j e
  have hbk := hQ.blk.kept hkept (fun e => hgne g e rfl)
  rw [del_cells ts k hk] at hrow
  have hlen : (ts.eraseIdx k).length = ts.length - 1 := by rw [List.length_eraseIdx_of_lt hk]
  rw [← hlen] at hrow
  obtain ⟨A, c, rfl⟩ : ∃ A c, v' = .slice A (ts.length - 1) c := by
    rcases own_trow hrow with ⟨rfl, h0⟩ | ⟨b, c, rfl, _⟩
    · exact ⟨none, 0, by rw [← hlen, h0]; rfl⟩
    · exact ⟨_, c, by rw [hlen]⟩
  have hS : ∀ (e : Nat) (v : Value) (n : Nat) (xs : List Value), w.ownsRow base e 1 v n xs → e ≠ 39 → e ≠ 106 → (∀ j, v.ownBlock = some j → va.ownBlock ≠ some j) ∧ (∀ j, v.ownBlock = some j → j ≠ g) := by
    intro e v n xs h h1 h2
    refine ⟨fun j hj e2 => ?_, fun j hj => own_ne h hQ.blk h2 j hj⟩
    obtain ⟨c1, b1, _⟩ := own_blk h hj
    obtain ⟨c2, b2, _⟩ := own_blk hQ.all e2
    exact absurd rfl (b1.ne b2 h1)
  refine ⟨A, c, rfl, by have := hbk.cell 0; simpa using this, hbk.frozen 0, hkept, .slice A (ts.length - 1) c, ⟨?_, hQ.low, ?_, ?_, ?_, ?_⟩, ?_, hsame⟩
  · exact blk_setCell (cur := [va, vs]) hbk 0 (.slice A (ts.length - 1) c)
  · exact own_setCell hrow (fun j e => own_ne hrow hbk (by decide) j e) _
  · have h1 := hS _ _ _ _ hQ.szs (by decide) (by decide)
    exact own_setCell (own_kept hQ.szs hkept h1.1) (fun j e => h1.2 j e) _
  · intro y hy
    have h1 := hS _ _ _ _ (hQ.pls y (List.mem_of_mem_eraseIdx hy)) (by decide) (by decide)
    exact own_setCell (own_kept (hQ.pls y (List.mem_of_mem_eraseIdx hy)) hkept h1.1) (fun j e => h1.2 j e) _
  · exact fun y hy => hQ.few y (List.mem_of_mem_eraseIdx hy)
  · exact (hkept.mono (fun j _ h => .inr h)).setCell (fun _ => .inl rfl) _
theorem own_lt {w : World} {base : Nat} {e : TypeId} {size : Nat} {v : Value} {n : Nat} {xs : List Value} (h : w.ownsRow base e size v n xs) {k : Nat} (hk : v.ownBlock = some k) : k < w.heap.size := by
  obtain ⟨cur, h1, _⟩ := own_blk h hk
  exact h1.lt
theorem DropDone.setCell {w w' : World} {base g : Nat} {va vs : Value} {ts : List Tk} {sizes : List Int} {k : Nat} (hQ : QRep w base g va vs ts sizes) (h : DropDone w w' base g va vs ts sizes k) {a : Addr} (ha : w.heap.size ≤ a.block) (u : Value) : DropDone w (w'.setCell a u) base g va vs ts sizes k := by
  obtain ⟨va', q, hk, hs⟩ := h
  have hkk : Kept w' (w'.setCell a u) (fun j => j = a.block) := Kept.setCell (S := fun j => j = a.block) (Kept.refl _ _) (fun _ => rfl) u
  refine ⟨va', ⟨q.blk.kept hkk ?_, q.low, own_kept q.all hkk ?_, own_kept q.szs hkk ?_, ?_, q.few⟩, hk.setCell (fun h => absurd h (by omega)) u, hs⟩
  · have := hQ.lt; omega
  · intro j hj; rw [hs] at hj; have := own_lt hQ.all hj; omega
  · intro j hj; have := own_lt hQ.szs hj; omega
  · intro y hy
    refine own_kept (q.pls y hy) hkk ?_
    intro j hj; have := own_lt (hQ.pls y (List.mem_of_mem_eraseIdx hy)) hj; omega
/-- Drop's answer. -/
def DropRes (w w' : World) (base g : Nat) (va vs : Value) (ts : List Tk) (sizes : List Int) (x : Int) (e : Ending) : Prop :=
  (ts.find? (fun t => t.id == x) = none ∧ e = .returned (.tuple #[.agg #[.int .u32 0, .int .i64 0, .slice none 0 0, .int .i64 0, .int .i64 0], .bool false]) ∧ Below w.heap.size w w') ∨
  ∃ k, k < ts.length ∧ ts.find? (fun t => t.id == x) = some (ts.getD k Tk.zero) ∧ idxBy (fun t => t.id == x) ts 0 = k ∧ e = .returned (.tuple #[.agg #[.int .u32 (ts.getD k Tk.zero).id, .int .i64 (ts.getD k Tk.zero).mode, (ts.getD k Tk.zero).pv, .int .i64 (ts.getD k Tk.zero).rating, .int .i64 (ts.getD k Tk.zero).since], .bool true]) ∧ DropDone w w' base g va vs ts sizes k
set_option maxHeartbeats 1600000 in
set_option maxRecDepth 100000 in
theorem drop_some (base g : Nat) (va vs : Value) (ts : List Tk) (sizes : List Int) (x : Int) (w : World) (hq : QRep w base g va vs ts sizes) :
    Calls Try.prog 18 #[.pointer (some ⟨g, 0, none⟩), .int .u32 x] w fun e w' => DropRes w w' base g va vs ts sizes x e := by
  have hlt := hq.lt
  obtain ⟨W0, hW0⟩ : ∃ W0, W0 = (w.alloc (.cells #[.int .u32 x] 33)).alloc (.cells #[.int .u32 0, .int .i64 0, .slice none 0 0, .int .i64 0, .int .i64 0] 39) := ⟨_, rfl⟩
  have hB0 : Below w.heap.size w W0 := by rw [hW0]; exact below_two w _ _
  obtain ⟨bX, bR⟩ := two_blk w #[.int .u32 x] #[.int .u32 0, .int .i64 0, .slice none 0 0, .int .i64 0, .int .i64 0] 33 39
  rw [← hW0] at bX bR
  have HQ : Hid (QRep W0 base g va vs ts sizes) := hq.below hB0
  have ea := enters_of Try.func63 (by kernel_rfl) rfl
  have hmf : ∀ (fn : Fn) (first cap : Array Value) (w : World), (Instr.makeFunc fn first cap).run Try.prog w = .ok (.func fn first cap) w := fun _ _ _ _ => rfl
  have HA : Hid (Asks W0 63 #[.pointer (some ⟨w.heap.size, 0, none⟩)] ts (fun t => t.id == x)) := id_asks_drop _ base ts w.heap.size x bX.lt (bX.cell 0) HQ.out.pls
  have HB0 := Lib.hid hB0
  have HR := Lib.hid bR
  have HW0 := Lib.hid hW0
  clear bX bR hB0 hW0
  rcases idxBy_find Tk.zero (fun t => t.id == x) ts with ⟨h1, h2⟩ | ⟨k, h0, h1, h2⟩
  · have H1 := Lib.hid h1
    have H2 := Lib.hid h2
    clear h1 h2 hq
    go_enter Try.func18, Try.ntmps18
    go_wp2_with (go_at_call 60; rw [← HW0.out]; refine (at_some (fun t => t.id == x) 63 _ ea base g va vs ts sizes _ HQ.out HA.out).mono ?_; rintro e w' ⟨rfl, hb'⟩; rw [H1.out]; obtain ⟨cR, fR⟩ := blk_rule (HR.out.below hb'); have HB := Lib.hid (HB0.out.trans (hb'.mono HB0.out.size)); clear hb')
    refine bodyPost_ret (v := .tuple #[.agg #[.int .u32 0, .int .i64 0, .slice none 0 0, .int .i64 0, .int .i64 0], .bool false]) ?_ rfl ?_
    · simp [results, Try.results18, go_sem, cR]
    · exact .inl ⟨H2.out, rfl, ((((HB.out.setCell (by simp) _).setCell (by simp) _).setCell (by simp) _).setCell (by simp) _).setCell (by simp) _⟩
  · obtain ⟨t, htd⟩ : ∃ t, t = ts.getD k Tk.zero := ⟨_, rfl⟩
    have htm : t ∈ ts := by rw [htd]; exact getD_mem _ _ _ h0
    obtain ⟨A, pc, hpv, _⟩ := (hq.pls t htm).shows.form
    have HFIN : Hid (∀ w', DropDone w w' base g va vs ts sizes k → DropRes w w' base g va vs ts sizes x (.returned (.tuple #[.agg #[.int .u32 t.id, .int .i64 t.mode, .slice A t.pl.length pc, .int .i64 t.rating, .int .i64 t.since], .bool true]))) := fun w' hd => .inr ⟨k, h0, h2, h1, by rw [← htd, ← hpv], hd⟩
    rcases own_trow hq.all with ⟨_, e0⟩ | ⟨b, c, rfl, hm, hblt, ht⟩
    · rw [e0] at h0; simp at h0
    have HT : Hid (TRow W0 b 0 ts.length ts) := ht.below HB0.out
    have H1 := Lib.hid h1
    have hk1 : (k : Int) < (ts.length : Int) := by omega
    have HK := Lib.hid h0
    have hm' := hm
    unfold maxLen at hm'
    obtain ⟨n, hn⟩ : ∃ n, n = ts.length := ⟨_, rfl⟩
    have hkn : k < n := by omega
    rw [← hn] at hk1 hm' HT HQ HFIN
    have HN := Lib.hid hn
    have HTD := Lib.hid htd
    have HPV := Lib.hid hpv
    have HQW := Lib.hid hq
    have HAF : Hid (∀ (w' w1 : World) (cs : Array Value), Below w.heap.size w w' → Blk w' (w.heap.size + 1) #[.int .u32 0, .int .i64 0, .slice none 0 0, .int .i64 0, .int .i64 0] 39 → Kept (w'.alloc (.cells cs 39)) w1 (fun j => (Value.slice (some ⟨b, 0, none⟩) n c).ownBlock = some j) → Blk w1 w'.heap.size cs 39 ∧ Blk w1 (w.heap.size + 1) #[.int .u32 0, .int .i64 0, .slice none 0 0, .int .i64 0, .int .i64 0] 39) := by
      intro w' w1 cs hb hr hk
      have hs := hb.size
      have hl := hr.lt
      refine ⟨(show Blk (w'.alloc (.cells cs _)) w'.heap.size cs _ from heap_alloc_new w' _).kept hk ?_, (hr.below ((Below.refl _ _).alloc (Nat.le_refl _) _)).kept hk ?_⟩
      · intro h
        have : b = w'.heap.size := by simpa [Value.ownBlock] using h
        omega
      · intro h
        have : b = w.heap.size + 1 := by simpa [Value.ownBlock] using h
        omega
    have hw1 : IntKind.i64.wrap ((k : Int) + 1) = (k : Int) + 1 := by rw [IntKind.wrap_i64]; omega
    clear h1 h2 hq ht hm hn htd htm hpv h0
    go_enter Try.func18, Try.ntmps18
    go_wp2_with (first | (go_at_call 60; rw [← HW0.out]; refine (at_some (fun t => t.id == x) 63 _ ea base g _ vs ts sizes _ HQ.out HA.out).mono ?_; rintro e w' ⟨rfl, hb'⟩; rw [H1.out]; have HQ1 := Lib.hid (HQ.out.below hb'); have c0 := HQ1.out.blk.cell 0; simp only [List.getElem?_toArray, List.getElem?_cons_zero] at c0; have tt := HT.out.below hb'; have t0 := tt.c0 k hkn; have t1 := tt.c1 k hkn; have t2 := tt.c2 k hkn; have t3 := tt.c3 k hkn; have t4 := tt.c4 k hkn; simp only [Nat.zero_add] at t0 t1 t2 t3 t4; rw [← HTD.out] at t0 t1 t2 t3 t4; rw [HPV.out] at t2; have lg := HQ1.out.lt; have HR1 := Lib.hid (HR.out.below hb'); have HB := Lib.hid (HB0.out.trans (hb'.mono HB0.out.size)); clear hb' tt) | (go_at_call 64; refine (drop_tail _ base g _ vs ts sizes k (HQ1.out.below ((Below.refl _ _).alloc (Nat.le_refl _) _)) HK.out).mono ?_; rintro e w1 ⟨A', c', rfl, q1, f1, hkept, hdone⟩; obtain ⟨bT, bR⟩ := HAF.out w' w1 _ HB.out HR1.out hkept; have d0 := bT.cell 0; have d1 := bT.cell 1; have d2 := bT.cell 2; have d3 := bT.cell 3; have d4 := bT.cell 4; simp only [List.getElem?_toArray, List.getElem?_cons_zero, List.getElem?_cons_succ] at d0 d1 d2 d3 d4; obtain ⟨cR, fR⟩ := blk_rule bR; have lg' := HB.out.size; have lT := bT.lt; have lR := bR.lt; have HDD := Lib.hid hdone; clear hdone))
    refine bodyPost_ret (v := .tuple #[.agg #[.int .u32 t.id, .int .i64 t.mode, .slice A t.pl.length pc, .int .i64 t.rating, .int .i64 t.since], .bool true]) (by simp [results, Try.results18, go_sem, cR]) rfl ?_
    refine HFIN.out _ ?_
    have hq0 : QRep w base g (.slice (some ⟨b, 0, none⟩) n c) vs ts sizes := by rw [HN.out]; exact HQW.out
    have HD0 : Hid (DropDone w (w1.setCell ⟨g, 0, none⟩ (.slice A' (ts.length - 1) c')) base g (.slice (some ⟨b, 0, none⟩) n c) vs ts sizes k) := by
      obtain ⟨va', q, hk, hs⟩ := HDD.out
      exact ⟨va', q, (kept_of_below (HB.out.alloc HB.out.size _) _).trans hk (fun j _ h => h), hs⟩
    exact ((((HD0.out.setCell hq0 (by simp) _).setCell hq0 (by simp) _).setCell hq0 (by simp) _).setCell hq0 (by simp) _).setCell hq0 (by simp) _
/-- A queue that is not there. -/
theorem drop_nil (x : Int) (w : World) : Calls Try.prog 18 #[.pointer none, .int .u32 x] w fun e w' => e = .returned (.tuple #[.agg #[.int .u32 0, .int .i64 0, .slice none 0 0, .int .i64 0, .int .i64 0], .bool false]) ∧ Below w.heap.size w w' := by
  have hmf : ∀ (fn : Fn) (first cap : Array Value) (w : World), (Instr.makeFunc fn first cap).run Try.prog w = .ok (.func fn first cap) w := fun _ _ _ _ => rfl
  go_enter Try.func18, Try.ntmps18
  go_wp2_with (go_at_call 60; refine (at_nil _ _).mono ?_; rintro e w' ⟨rfl, rfl⟩)
  refine bodyPost_ret (v := .tuple #[.agg #[.int .u32 0, .int .i64 0, .slice none 0 0, .int .i64 0, .int .i64 0], .bool false]) (by simp [results, Try.results18, go_sem]) rfl ?_
  exact ⟨rfl, below_two _ _ _⟩
theorem put_nil (a b c d e : Value) (w : World) (ha : a.oneCell' = true) (hb : b.oneCell' = true) (hc : c.oneCell' = true) (hd : d.oneCell' = true) (he : e.oneCell' = true) : Calls Try.prog 10 #[.pointer none, .agg #[a, b, c, d, e]] w fun e w' => e = .returned (.int .i64 10) ∧ Below w.heap.size w w' := by
  go_enter Try.func10, Try.ntmps10
  go_wp2_with fail
  go_ret
  exact ⟨rfl, (Below.refl _ _).alloc (Nat.le_refl _) _⟩
end Go.Proofs.Ytlkpmlcmgggifaa
