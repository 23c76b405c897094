/- Get, Of, Len; a question about numbers; doubled. -/
import Derived.Test.YtlkpmlcmgggifaaQd
set_option linter.unusedVariables false
set_option linter.unusedSimpArgs false
namespace Go.Proofs.Ytlkpmlcmgggifaa
open Go.RowKit
theorem id_asks_get (w : World) (base : Nat) (ts : List Tk) (B : Nat) (x : Int) (hB : B < w.heap.size) (hx : w.cell? ⟨B, 0, none⟩ = some (.int .u32 x)) (hpl : ∀ t ∈ ts, OwnN w base 33 .u32 t.pv t.pl) :
    Asks w 68 #[.pointer (some ⟨B, 0, none⟩)] ts (fun t => t.id == x) := by
  intro W hW t ht
  have hx' := (hW.cell (p := ⟨B, 0, none⟩) hB).trans hx
  have h1 := shows_oneCell (hpl t ht).shows
  have HW := Lib.hid hW
  have hBW : B < W.heap.size := Nat.lt_of_lt_of_le hB hW.size
  have HZ := Lib.hid hW.size
  clear hpl ht hx hW hB
  show Calls _ _ #[_, _] _ _
  go_enter Try.func68, Try.ntmps68
  go_wp2
  go_ret
  exact ⟨rfl, HW.out.alloc HZ.out _⟩
theorem id_asks_drop (w : World) (base : Nat) (ts : List Tk) (B : Nat) (x : Int) (hB : B < w.heap.size) (hx : w.cell? ⟨B, 0, none⟩ = some (.int .u32 x)) (hpl : ∀ t ∈ ts, OwnN w base 33 .u32 t.pv t.pl) :
    Asks w 63 #[.pointer (some ⟨B, 0, none⟩)] ts (fun t => t.id == x) := by
  intro W hW t ht
  have hx' := (hW.cell (p := ⟨B, 0, none⟩) hB).trans hx
  have h1 := shows_oneCell (hpl t ht).shows
  have HW := Lib.hid hW
  have hBW : B < W.heap.size := Nat.lt_of_lt_of_le hB hW.size
  have HZ := Lib.hid hW.size
  clear hpl ht hx hW hB
  show Calls _ _ #[_, _] _ _
  go_enter Try.func63, Try.ntmps63
  go_wp2
  go_ret
  exact ⟨rfl, HW.out.alloc HZ.out _⟩
theorem idxBy_find {α : Type} (d : α) (p : α → Bool) (xs : List α) : (idxBy p xs 0 = -1 ∧ xs.find? p = none) ∨ ∃ k : Nat, k < xs.length ∧ idxBy p xs 0 = k ∧ xs.find? p = some (xs.getD k d) := by
  rcases idxBy_cases d p xs with ⟨h1, h2⟩ | ⟨k, h1, h2, h3, h4⟩
  · exact .inl ⟨h1, by simpa using h2⟩
  · refine .inr ⟨k, h1, h2, ?_⟩
    clear h2
    induction xs generalizing k with
    | nil => simp at h1
    | cons y r ih =>
      cases k with
      | zero => simp at h3; simp [h3]
      | succ k =>
        have h0 : p y = false := by simpa using h4 0 (by omega)
        rw [List.find?_cons, h0]
        simpa using ih k (by simpa using h1) (by simpa using h3) (fun j hj => by simpa using h4 (j + 1) (by omega))
/-- The ticket's id of which something is so; 0. -/
def idOf (o : Option Tk) : Int := (o.map Tk.id).getD 0
set_option maxHeartbeats 800000 in
set_option maxRecDepth 100000 in
theorem of_some (base g : Nat) (va vs : Value) (ts : List Tk) (sizes : List Int) (x : Int) (w : World) (hq : QRep w base g va vs ts sizes) :
    Calls Try.prog 14 #[.pointer (some ⟨g, 0, none⟩), .int .u32 x] w fun e w' => e = .returned (.int .u32 (idOf (ts.find? (fun t => decide (x ∈ t.pl))))) ∧ Below w.heap.size w w' := by
  have hlt := hq.lt
  have HQ : Hid (QRep (w.alloc (.cells #[.int .u32 x] 33)) base g va vs ts sizes) := hq.below ((Below.refl _ _).alloc (Nat.le_refl _) _)
  have ea := enters_of Try.func61 (by kernel_rfl) rfl
  have hmf : ∀ (fn : Fn) (first cap : Array Value) (w : World), (Instr.makeFunc fn first cap).run Try.prog w = .ok (.func fn first cap) w := fun _ _ _ _ => rfl
  rcases idxBy_find Tk.zero (fun t => decide (x ∈ t.pl)) ts with ⟨h1, h2⟩ | ⟨k, h0, h1, h2⟩
  · rw [h2]
    have H1 := Lib.hid h1
    clear h1 h2 hq
    go_enter Try.func14, Try.ntmps14
    go_wp2_with (go_at_call 60; refine (at_some (fun t => decide (x ∈ t.pl)) 61 _ ea base g va vs ts sizes _ HQ.out (of_asks _ base ts w.heap.size x (by simp) (by simp) HQ.out.pls)).mono ?_; rintro e w' ⟨rfl, hb'⟩; rw [H1.out])
    go_ret
    exact ⟨rfl, (((Below.refl _ _).alloc (Nat.le_refl _) _).trans (hb'.mono (by simp)))⟩
  · rw [h2]
    rcases own_trow hq.all with ⟨_, e0⟩ | ⟨b, c, rfl, hm, hblt, ht⟩
    · rw [e0] at h0; simp at h0
    have HT : Hid (TRow (w.alloc (.cells #[.int .u32 x] 33)) b 0 ts.length ts) := ht.below ((Below.refl _ _).alloc (Nat.le_refl _) _)
    have H1 := Lib.hid h1
    have hk1 : (k : Int) < (ts.length : Int) := by omega
    have hm' := hm
    unfold maxLen at hm'
    obtain ⟨n, hn⟩ : ∃ n, n = ts.length := ⟨_, rfl⟩
    rw [← hn] at hk1 hm' HT HQ hq
    have HN := Lib.hid hn
    obtain ⟨t, htd⟩ : ∃ t, t = ts.getD k Tk.zero := ⟨_, rfl⟩
    rw [← htd, show idOf (some t) = t.id from rfl]
    have HTD := Lib.hid htd
    clear h1 h2 hq ht hm hn htd
    go_enter Try.func14, Try.ntmps14
    go_wp2_with (go_at_call 60; refine (at_some (fun t => decide (x ∈ t.pl)) 61 _ ea base g _ vs ts sizes _ HQ.out (of_asks _ base ts w.heap.size x (by simp) (by simp) HQ.out.pls)).mono ?_; rintro e w' ⟨rfl, hb'⟩; rw [H1.out]; have c0 := (HQ.out.below hb').blk.cell 0; simp only [List.getElem?_toArray, List.getElem?_cons_zero] at c0; have t0 := (HT.out.below hb').c0 k (by omega); simp only [Nat.zero_add] at t0; rw [← HTD.out] at t0; have HB := Lib.hid hb'; clear hb')
    go_ret
    exact ⟨rfl, (((Below.refl _ _).alloc (Nat.le_refl _) _).trans (HB.out.mono (by simp)))⟩

theorem len_some (base g : Nat) (va vs : Value) (ts : List Tk) (sizes : List Int) (w : World) (hq : QRep w base g va vs ts sizes) :
    Calls Try.prog 15 #[.pointer (some ⟨g, 0, none⟩)] w fun e w' => e = .returned (.int .i64 ts.length) ∧ w = w' := by
  have h0 := hq.blk.cell 0
  simp at h0
  rcases own_trow hq.all with ⟨rfl, rfl⟩ | ⟨b, c, rfl, hm, hblt, ht⟩
  · clear hq
    go_enter Try.func15, Try.ntmps15
    go_wp2
    go_ret
    exact ⟨rfl, rfl⟩
  · clear hq ht
    generalize ts.length = n at *
    go_enter Try.func15, Try.ntmps15
    go_wp2
    go_ret
    exact ⟨rfl, rfl⟩
theorem len_nil (w : World) : Calls Try.prog 15 #[.pointer none] w fun e w' => e = .returned (.int .i64 0) ∧ w = w' := by
  go_enter Try.func15, Try.ntmps15
  go_wp2
  go_ret
  exact ⟨rfl, rfl⟩
theorem of_nil (x : Int) (w : World) : Calls Try.prog 14 #[.pointer none, .int .u32 x] w fun e w' => e = .returned (.int .u32 0) ∧ Below w.heap.size w w' := by
  have hmf : ∀ (fn : Fn) (first cap : Array Value) (w : World), (Instr.makeFunc fn first cap).run Try.prog w = .ok (.func fn first cap) w := fun _ _ _ _ => rfl
  go_enter Try.func14, Try.ntmps14
  go_wp2_with (go_at_call 60; refine (at_nil _ _).mono ?_; rintro e w' ⟨rfl, rfl⟩)
  go_ret
  exact ⟨rfl, (Below.refl _ _).alloc (Nat.le_refl _) _⟩
/-- Get's answer: nothing, or an own copy. -/
def GotCopy (w w' : World) (o : Option Tk) (e : Ending) : Prop :=
  match o with
  | none => e = .returned (.tuple #[.agg #[.int .u32 0, .int .i64 0, .slice none 0 0, .int .i64 0, .int .i64 0], .bool false]) ∧ Below w.heap.size w w'
  | some t => ∃ pv', e = .returned (.tuple #[.agg #[.int .u32 t.id, .int .i64 t.mode, pv', .int .i64 t.rating, .int .i64 t.since], .bool true]) ∧ OwnN w' w.heap.size 33 .u32 pv' t.pl ∧ Below w.heap.size w w'
set_option maxHeartbeats 1600000 in
set_option maxRecDepth 100000 in
theorem get_some (base g : Nat) (va vs : Value) (ts : List Tk) (sizes : List Int) (x : Int) (w : World) (hq : QRep w base g va vs ts sizes) :
    Calls Try.prog 23 #[.pointer (some ⟨g, 0, none⟩), .int .u32 x] w fun e w' => GotCopy w w' (ts.find? (fun t => t.id == x)) e := by
  have hlt := hq.lt
  obtain ⟨W0, hW0⟩ : ∃ W0, W0 = (w.alloc (.cells #[.int .u32 x] 33)).alloc (.cells #[.int .u32 0, .int .i64 0, .slice none 0 0, .int .i64 0, .int .i64 0] 39) := ⟨_, rfl⟩
  have hB0 : Below w.heap.size w W0 := by rw [hW0]; exact below_two w _ _
  obtain ⟨bX, bR⟩ := two_blk w #[.int .u32 x] #[.int .u32 0, .int .i64 0, .slice none 0 0, .int .i64 0, .int .i64 0] 33 39
  rw [← hW0] at bX bR
  have HQ : Hid (QRep W0 base g va vs ts sizes) := hq.below hB0
  have ea := enters_of Try.func68 (by kernel_rfl) rfl
  have hmf : ∀ (fn : Fn) (first cap : Array Value) (w : World), (Instr.makeFunc fn first cap).run Try.prog w = .ok (.func fn first cap) w := fun _ _ _ _ => rfl
  have HA : Hid (Asks W0 68 #[.pointer (some ⟨w.heap.size, 0, none⟩)] ts (fun t => t.id == x)) := id_asks_get _ base ts w.heap.size x bX.lt (bX.cell 0) HQ.out.pls
  have HB0 := Lib.hid hB0
  have HR := Lib.hid bR
  have HW0 := Lib.hid hW0
  clear bX bR hB0 hW0
  rcases idxBy_find Tk.zero (fun t => t.id == x) ts with ⟨h1, h2⟩ | ⟨k, h0, h1, h2⟩
  · rw [h2]
    have H1 := Lib.hid h1
    clear h1 h2 hq
    go_enter Try.func23, Try.ntmps23
    go_wp2_with (go_at_call 60; rw [← HW0.out]; refine (at_some (fun t => t.id == x) 68 _ ea base g va vs ts sizes _ HQ.out HA.out).mono ?_; rintro e w' ⟨rfl, hb'⟩; rw [H1.out]; obtain ⟨cR, fR⟩ := blk_rule (HR.out.below hb'); have HB := Lib.hid (HB0.out.trans (hb'.mono HB0.out.size)); clear hb')
    refine bodyPost_ret (v := .tuple #[.agg #[.int .u32 0, .int .i64 0, .slice none 0 0, .int .i64 0, .int .i64 0], .bool false]) ?_ rfl ?_
    · simp [results, Try.results23, go_sem, cR]
    · exact ⟨rfl, ((((HB.out.setCell (by simp) _).setCell (by simp) _).setCell (by simp) _).setCell (by simp) _).setCell (by simp) _⟩
  · rw [h2]
    rcases own_trow hq.all with ⟨_, e0⟩ | ⟨b, c, rfl, hm, hblt, ht⟩
    · rw [e0] at h0; simp at h0
    have HT : Hid (TRow W0 b 0 ts.length ts) := ht.below HB0.out
    have H1 := Lib.hid h1
    have hk1 : (k : Int) < (ts.length : Int) := by omega
    have hm' := hm
    unfold maxLen at hm'
    obtain ⟨n, hn⟩ : ∃ n, n = ts.length := ⟨_, rfl⟩
    rw [← hn] at hk1 hm' HT HQ
    have HN := Lib.hid hn
    obtain ⟨t, htd⟩ : ∃ t, t = ts.getD k Tk.zero := ⟨_, rfl⟩
    rw [← htd]
    have htm : t ∈ ts := by rw [htd]; exact getD_mem _ _ _ h0
    have HTD := Lib.hid htd
    have HS : Hid (Shows W0 .u32 t.pv t.pl) := (HQ.out.pls t htm).shows
    have HF := Lib.hid (hq.few t htm)
    have h1c := shows_oneCell HS.out
    clear h1 h2 hq ht hm hn htd htm
    go_enter Try.func23, Try.ntmps23
    go_wp2_with (first
      | (go_at_call 60; rw [← HW0.out]; refine (at_some (fun t => t.id == x) 68 _ ea base g _ vs ts sizes _ HQ.out HA.out).mono ?_; rintro e w' ⟨rfl, hb'⟩; rw [H1.out]
         have c0 := (HQ.out.below hb').blk.cell 0
         simp only [List.getElem?_toArray, List.getElem?_cons_zero] at c0
         have tt := HT.out.below hb'
         have t0 := tt.c0 k (by omega)
         have t1 := tt.c1 k (by omega)
         have t2 := tt.c2 k (by omega)
         have t3 := tt.c3 k (by omega)
         have t4 := tt.c4 k (by omega)
         simp only [Nat.zero_add] at t0 t1 t2 t3 t4
         rw [← HTD.out] at t0 t1 t2 t3 t4
         have HR1 := Lib.hid (HR.out.below hb')
         have HB := Lib.hid (HB0.out.trans (hb'.mono HB0.out.size))
         have HS1 := Lib.hid (HS.out.below hb')
         clear hb' tt)
      | (go_at_call 56; refine (own_any _ _ _ _ _ t.pl _ HS1.out HF.out).mono ?_; rintro e w'' ⟨pv', rfl, hown, hb'⟩
         obtain ⟨cR, fR⟩ := blk_rule (HR1.out.below hb')
         have HB2 := Lib.hid (HB.out.trans (hb'.mono HB.out.size))
         have HO := Lib.hid (own_mono hown HB.out.size)
         have HR2 := Lib.hid (HR1.out.below hb')
         obtain ⟨A', c', rfl, _⟩ := hown.shows.form
         clear hown hb'))
    refine bodyPost_ret (v := .tuple #[.agg #[.int .u32 t.id, .int .i64 t.mode, .slice A' t.pl.length c', .int .i64 t.rating, .int .i64 t.since], .bool true]) ?_ rfl ?_
    · simp [results, Try.results23, go_sem, cR]
    · have HZ := HB.out.size
      have hne := own_ne HO.out HR2.out (by decide)
      refine ⟨_, rfl, own_setCell (own_setCell (own_setCell (own_setCell (own_setCell HO.out hne _) hne _) hne _) hne _) hne _, ((((HB2.out.setCell (by simp) _).setCell (by simp) _).setCell (by simp) _).setCell (by simp) _).setCell (by simp) _⟩
end Go.Proofs.Ytlkpmlcmgggifaa
