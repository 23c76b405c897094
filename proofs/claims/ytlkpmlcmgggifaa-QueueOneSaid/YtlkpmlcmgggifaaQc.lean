/- The queue in memory; looking into it. -/
import Derived.Test.YtlkpmlcmgggifaaQb
set_option linter.unusedVariables false
set_option linter.unusedSimpArgs false
namespace Go.Proofs.Ytlkpmlcmgggifaa
open Go.RowKit

/-- A queue: its block, the row of its tickets, the modes' sizes; each ticket's players lie in a row of their own. -/
structure QRep (w : World) (base g : Nat) (va vs : Value) (ts : List Tk) (sizes : List Int) : Prop where
  blk : Blk w g #[va, vs] 106
  low : base ≤ g
  all : w.ownsRow base 39 5 va ts.length (ts.flatMap Tk.cs)
  szs : OwnN w base 3 .i64 vs sizes
  pls : ∀ t ∈ ts, OwnN w base 33 .u32 t.pv t.pl
  few : ∀ t ∈ ts, t.pl.length ≤ 8

theorem QRep.kept {w w' : World} {S : Nat → Prop} {base g : Nat} {va vs : Value} {ts : List Tk} {sizes : List Int} (h : QRep w base g va vs ts sizes) (hk : Kept w w' S)
    (hn : ∀ k cur t, base ≤ k → Blk w k cur t → t = 106 ∨ t = 39 ∨ t = 3 ∨ t = 33 → ¬ S k) : QRep w' base g va vs ts sizes :=
  ⟨h.blk.kept hk (hn _ _ _ h.low h.blk (.inl rfl)), h.low, own_kept h.all hk (fun k e => by obtain ⟨cur, hb, hg⟩ := own_blk h.all e; exact hn _ _ _ hg hb (by simp)),
    own_kept h.szs hk (fun k e => by obtain ⟨cur, hb, hg⟩ := own_blk h.szs e; exact hn _ _ _ hg hb (by simp)),
    fun t ht => own_kept (h.pls t ht) hk (fun k e => by obtain ⟨cur, hb, hg⟩ := own_blk (h.pls t ht) e; exact hn _ _ _ hg hb (by simp)), h.few⟩
theorem QRep.below {w w' : World} {base g : Nat} {va vs : Value} {ts : List Tk} {sizes : List Int} (h : QRep w base g va vs ts sizes) (hb : Below w.heap.size w w') : QRep w' base g va vs ts sizes :=
  h.kept (kept_of_below hb (fun _ => False)) (fun _ _ _ _ _ _ c => c)
theorem QRep.lt {w : World} {base g : Nat} {va vs : Value} {ts : List Tk} {sizes : List Int} (h : QRep w base g va vs ts sizes) : g < w.heap.size := h.blk.lt

theorem flat_getElem (ts : List Tk) : ∀ (i : Nat), i < ts.length → ∀ j, j < 5 → (ts.flatMap Tk.cs)[i * 5 + j]? = (ts.getD i Tk.zero).cs[j]? := by
  induction ts with
  | nil => intro i hi; simp at hi
  | cons t r ih =>
    intro i hi j hj
    have hl : t.cs.length = 5 := rfl
    rw [List.flatMap_cons]
    cases i with
    | zero => rw [List.getElem?_append_left (by omega)]; simp
    | succ i =>
      rw [List.getElem?_append_right (by omega), hl, show (i + 1) * 5 + j - 5 = i * 5 + j by omega, ih i (by simpa using hi) j hj]
      simp
/-- An owned row of tickets, cell by cell: nil, or a block. -/
theorem own_trow {w : World} {base e : Nat} {va : Value} {ts : List Tk} (h : w.ownsRow base e 5 va ts.length (ts.flatMap Tk.cs)) :
    (va = .slice none 0 0 ∧ ts = []) ∨ ∃ b c, va = .slice (some ⟨b, 0, none⟩) ts.length c ∧ ts.length ≤ maxLen ∧ b < w.heap.size ∧ TRow w b 0 ts.length ts := by
  rcases h.2 with ⟨rfl, hn⟩ | ⟨g, cap, cur, rfl, hb, hgg, hnc, hcm, hcs, ht⟩
  · exact .inl ⟨rfl, List.eq_nil_of_length_eq_zero hn⟩
  · have h1 : w.ownsRow base e 5 (.slice (some ⟨g, 0, none⟩) ts.length cap) ts.length (ts.flatMap Tk.cs) := h
    have hc : ∀ i, i < ts.length → ∀ j, j < 5 → w.cell? ⟨g, 0 + i * 5 + j, none⟩ = (ts.getD i Tk.zero).cs[j]? := fun i hi j hj => by
      rw [Nat.zero_add, h1.cellAt _ (by omega), flat_getElem ts i hi j hj]
    exact .inr ⟨g, cap, rfl, Nat.le_trans hnc hcm, (Array.getElem?_eq_some_iff.1 hgg).1, ⟨rfl, fun _ => (Array.getElem?_eq_some_iff.1 hgg).1, fun i hi => hc i hi 0 (by omega), fun i hi => hc i hi 1 (by omega), fun i hi => hc i hi 2 (by omega), fun i hi => hc i hi 3 (by omega), fun i hi => hc i hi 4 (by omega)⟩⟩

/-- What is asked of a question about tickets. -/
def Asks (w : World) (g : Nat) (lb : Array Value) (ts : List Tk) (p : Tk → Bool) : Prop :=
  ∀ W, Below w.heap.size w W → ∀ t ∈ ts, Calls Try.prog g (#[.agg #[.int .u32 t.id, .int .i64 t.mode, t.pv, .int .i64 t.rating, .int .i64 t.since]] ++ lb) W fun e w' => e = .returned (.bool (p t)) ∧ Below w.heap.size w w'
theorem getD_mem {α : Type} (d : α) (ts : List α) (i : Nat) (h : i < ts.length) : ts.getD i d ∈ ts := by simp [List.getD, h]
set_option maxHeartbeats 400000 in
theorem indexFuncT (p : Tk → Bool) (g : Nat) (lb : Array Value) (eg : ∀ args w, (callFunc g args).run Try.prog w = .ok (.enter g args) w) (va : Value) (base e : Nat) (ts : List Tk) (w : World)
    (hr : w.ownsRow base e 5 va ts.length (ts.flatMap Tk.cs)) (hp : Asks w g lb ts p) :
    Calls Try.prog 102 #[va, .func (.func g) #[] lb] w fun e w' => e = .returned (.int .i64 (idxBy p ts 0)) ∧ Below w.heap.size w w' := by
  rcases own_trow hr with ⟨rfl, rfl⟩ | ⟨b, c, rfl, hm, hlt, ht⟩
  · clear hp hr
    go_enter Try.func102, Try.ntmps102
    go_wp2_with fail
    refine wp_loop_rounds 1 ?_; rw [rounds_succ]
    go_wp2
    go_ret
    exact ⟨rfl, Below.refl _ _⟩
  · exact indexFuncT_at p g lb eg b 0 _ c ts w hm ht (fun W i hW hi t htt => hp W hW t (by subst htt; exact getD_mem _ _ _ hi))

set_option maxHeartbeats 400000 in
theorem at_some (p : Tk → Bool) (k : Nat) (lb : Array Value) (ek : ∀ args w, (callFunc k args).run Try.prog w = .ok (.enter k args) w) (base g : Nat) (va vs : Value) (ts : List Tk) (sizes : List Int) (w : World)
    (hq : QRep w base g va vs ts sizes) (hp : Asks w k lb ts p) :
    Calls Try.prog 60 #[.pointer (some ⟨g, 0, none⟩), .func (.func k) #[] lb] w fun e w' => e = .returned (.int .i64 (idxBy p ts 0)) ∧ Below w.heap.size w w' := by
  have h0 := hq.blk.cell 0
  simp at h0
  have HA := Lib.hid hq.all
  have HP := Lib.hid hp
  clear hp hq
  go_enter Try.func60, Try.ntmps60
  go_wp2_with (go_at_call 102; refine (indexFuncT p k lb ek va base _ ts _ HA.out HP.out).mono ?_; rintro e w' ⟨rfl, hb'⟩)
  go_ret
  exact ⟨rfl, hb'⟩
theorem at_nil (F : Value) (w : World) : Calls Try.prog 60 #[.pointer none, F] w fun e w' => e = .returned (.int .i64 (-1)) ∧ w = w' := by
  go_enter Try.func60, Try.ntmps60
  go_wp2
  go_ret
  exact ⟨rfl, rfl⟩

set_option maxHeartbeats 400000 in
theorem of_asks (w : World) (base : Nat) (ts : List Tk) (B : Nat) (x : Int) (hB : B < w.heap.size) (hx : w.cell? ⟨B, 0, none⟩ = some (.int .u32 x)) (hpl : ∀ t ∈ ts, OwnN w base 33 .u32 t.pv t.pl) :
    Asks w 61 #[.pointer (some ⟨B, 0, none⟩)] ts (fun t => decide (x ∈ t.pl)) := by
  intro W hW t ht
  have hx' := (hW.cell (p := ⟨B, 0, none⟩) hB).trans hx
  have HS : Hid (Shows W .u32 t.pv t.pl) := (hpl t ht).shows.below hW
  have h1 := shows_oneCell (hpl t ht).shows
  have HW := Lib.hid hW
  have hBW : B < W.heap.size := Nat.lt_of_lt_of_le hB hW.size
  have HZ := Lib.hid hW.size
  clear hpl ht hx hW hB
  show Calls _ _ #[_, _] _ _
  go_enter Try.func61, Try.ntmps61
  go_wp2_with (go_at_call 62; refine (contains32 _ _ _ _ (HS.out.below ((Below.refl _ _).alloc (Nat.le_refl _) _))).mono ?_; rintro e w' ⟨rfl, rfl⟩)
  go_ret
  exact ⟨rfl, HW.out.alloc HZ.out _⟩
end Go.Proofs.Ytlkpmlcmgggifaa
