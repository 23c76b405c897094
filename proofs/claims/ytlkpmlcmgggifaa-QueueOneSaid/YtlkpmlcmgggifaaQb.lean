/- Tickets in memory, and what only looks at them. -/
import Derived.Test.YtlkpmlcmgggifaaQa
import Derived.Deep.LoopGhost
import Derived.Laws.EntriesVeiled
set_option linter.unusedVariables false
set_option linter.unusedSimpArgs false
namespace Go.Proofs.Ytlkpmlcmgggifaa
open Go.RowKit

def idxBy {α : Type} (p : α → Bool) : List α → Int → Int
  | [], _ => -1
  | y :: r, i => if p y = true then i else idxBy p r (i + 1)
theorem idxBy_miss {α : Type} (d : α) (p : α → Bool) (xs : List α) : ∀ i, (∀ j, j < xs.length → p (xs.getD j d) = false) → idxBy p xs i = -1 := by
  induction xs with
  | nil => intro i _; rfl
  | cons y r ih =>
    intro i h
    have h0 : p y = false := by simpa using h 0 (by simp)
    simp only [idxBy, h0]
    exact ih _ (fun j hj => by simpa using h (j + 1) (by simp; omega))
theorem idxBy_hit {α : Type} (d : α) (p : α → Bool) (xs : List α) : ∀ i k, k < xs.length → (∀ j, j < k → p (xs.getD j d) = false) → p (xs.getD k d) = true → idxBy p xs i = i + k := by
  induction xs with
  | nil => intro i k hk; simp at hk
  | cons y r ih =>
    intro i k hk h hx
    cases k with
    | zero => simp at hx; simp [idxBy, hx]
    | succ k =>
      have h0 : p y = false := by simpa using h 0 (by simp)
      simp only [idxBy, h0]
      rw [show (if false = true then i else idxBy p r (i + 1)) = idxBy p r (i + 1) from rfl, ih (i + 1) k (by simpa using hk) (fun j hj => by simpa using h (j + 1) (by omega)) (by simpa using hx)]
      push_cast; omega
/-- what idxBy tells: none, or the first -/
theorem idxBy_cases_from {α : Type} (d : α) (p : α → Bool) (xs : List α) : ∀ i, (idxBy p xs i = -1 ∧ ∀ t ∈ xs, p t = false) ∨ ∃ k : Nat, k < xs.length ∧ idxBy p xs i = i + k ∧ p (xs.getD k d) = true ∧ ∀ j, j < k → p (xs.getD j d) = false := by
  induction xs with
  | nil => intro i; exact .inl ⟨rfl, fun t ht => by cases ht⟩
  | cons y r ih =>
    intro i
    cases hy : p y with
    | true => exact .inr ⟨0, by simp, by simp [idxBy, hy], by simpa using hy, fun j hj => absurd hj (by omega)⟩
    | false =>
      have e : idxBy p (y :: r) i = idxBy p r (i + 1) := by simp [idxBy, hy]
      rcases ih (i + 1) with ⟨h1, h2⟩ | ⟨k, h1, h2, h3, h4⟩
      · refine .inl ⟨by rw [e]; exact h1, fun t ht => ?_⟩
        rcases List.mem_cons.1 ht with rfl | ht
        · exact hy
        · exact h2 t ht
      · refine .inr ⟨k + 1, by simpa using h1, by rw [e, h2]; push_cast; omega, by simpa using h3, fun j hj => ?_⟩
        cases j with
        | zero => simpa using hy
        | succ j => simpa using h4 j (by omega)
theorem idxBy_cases {α : Type} (d : α) (p : α → Bool) (xs : List α) : (idxBy p xs 0 = -1 ∧ ∀ t ∈ xs, p t = false) ∨ ∃ k : Nat, k < xs.length ∧ idxBy p xs 0 = k ∧ p (xs.getD k d) = true ∧ ∀ j, j < k → p (xs.getD j d) = false := by
  simpa using idxBy_cases_from d p xs 0

structure Tk where
  id : Int
  mode : Int
  pv : Value
  pl : List Int
  rating : Int
  since : Int
def Tk.zero : Tk := ⟨0, 0, .slice none 0 0, [], 0, 0⟩
def Tk.cs (t : Tk) : List Value := [.int .u32 t.id, .int .i64 t.mode, t.pv, .int .i64 t.rating, .int .i64 t.since]

/-- A row of tickets, cell by cell. -/
structure TRow (w : World) (b off n : Nat) (ts : List Tk) : Prop where
  len : ts.length = n
  lt : 0 < n → b < w.heap.size
  c0 : ∀ i, i < n → w.cell? ⟨b, off + i * 5, none⟩ = some (.int .u32 (ts.getD i Tk.zero).id)
  c1 : ∀ i, i < n → w.cell? ⟨b, off + i * 5 + 1, none⟩ = some (.int .i64 (ts.getD i Tk.zero).mode)
  c2 : ∀ i, i < n → w.cell? ⟨b, off + i * 5 + 2, none⟩ = some (ts.getD i Tk.zero).pv
  c3 : ∀ i, i < n → w.cell? ⟨b, off + i * 5 + 3, none⟩ = some (.int .i64 (ts.getD i Tk.zero).rating)
  c4 : ∀ i, i < n → w.cell? ⟨b, off + i * 5 + 4, none⟩ = some (.int .i64 (ts.getD i Tk.zero).since)
theorem TRow.below {w W : World} {b off n : Nat} {ts : List Tk} (h : TRow w b off n ts) (hb : Below w.heap.size w W) : TRow W b off n ts :=
  ⟨h.len, fun hn => Nat.lt_of_lt_of_le (h.lt hn) hb.size,
    fun i hi => (hb.cell (p := ⟨b, off + i * 5, none⟩) (h.lt (by omega))).trans (h.c0 i hi), fun i hi => (hb.cell (p := ⟨b, off + i * 5 + 1, none⟩) (h.lt (by omega))).trans (h.c1 i hi),
    fun i hi => (hb.cell (p := ⟨b, off + i * 5 + 2, none⟩) (h.lt (by omega))).trans (h.c2 i hi), fun i hi => (hb.cell (p := ⟨b, off + i * 5 + 3, none⟩) (h.lt (by omega))).trans (h.c3 i hi),
    fun i hi => (hb.cell (p := ⟨b, off + i * 5 + 4, none⟩) (h.lt (by omega))).trans (h.c4 i hi)⟩

set_option maxHeartbeats 800000 in
set_option maxRecDepth 100000 in
theorem indexFuncT_at (p : Tk → Bool) (g : Nat) (lb : Array Value) (eg : ∀ args w, (callFunc g args).run Try.prog w = .ok (.enter g args) w) (b off n c : Nat) (ts : List Tk) (w : World) (hm : n ≤ maxLen)
    (hr : TRow w b off n ts)
    (hp : ∀ W i, Below w.heap.size w W → i < n → ∀ t, t = ts.getD i Tk.zero → Calls Try.prog g (#[.agg #[.int .u32 t.id, .int .i64 t.mode, t.pv, .int .i64 t.rating, .int .i64 t.since]] ++ lb) W fun e w' => e = .returned (.bool (p t)) ∧ Below w.heap.size w w') :
    Calls Try.prog 102 #[.slice (some ⟨b, off, none⟩) n c, .func (.func g) #[] lb] w fun e w' => e = .returned (.int .i64 (idxBy p ts 0)) ∧ Below w.heap.size w w' := by
  unfold maxLen at hm
  have HR := Lib.hid hr
  have HP := Lib.hid hp
  clear hr hp
  go_enter Try.func102, Try.ntmps102
  go_wp2
  go_loopw [8] (fun i W => ∃ k : Nat, k ≤ n ∧ i = .int .i64 k ∧ Hid (∀ j, j < k → p (ts.getD j Tk.zero) = false) ∧ Hid (Below w.heap.size w W)) (fun i _ => n - (intOf i).toNat)
  case atStart => exact ⟨0, Nat.zero_le _, rfl, fun j hj => absurd hj (by omega), Below.refl _ _⟩
  case round =>
    obtain ⟨k, hk, rfl, HM, HB⟩ := hrel
    by_cases hlt : k < n
    · have hrw := HR.out.below HB.out
      have k0 := hrw.c0 k hlt
      have k1 := hrw.c1 k hlt
      have k2 := hrw.c2 k hlt
      have k3 := hrw.c3 k hlt
      have k4 := hrw.c4 k hlt
      have hcall := HP.out wr k HB.out hlt _ rfl
      have HL := Lib.hid hrw.len
      clear hrw HP
      cases hq : p (ts.getD k Tk.zero) with
      | true =>
        have hfin := Lib.hid (idxBy_hit Tk.zero p ts 0 k (by rw [HL.out]; exact hlt) HM.out hq)
        rw [hq] at hcall
        clear hq
        generalize ts.getD k Tk.zero = t at k0 k1 k2 k3 k4 hcall
        have HC := Lib.hid hcall
        clear hcall
        go_wp2_with (go_at_fn g; refine HC.out.mono ?_; rintro e w' ⟨rfl, hb'⟩)
        go_ret
        exact ⟨by rw [hfin.out]; simp, hb'⟩
      | false =>
        have hnext : Hid (∀ j, j < k + 1 → p (ts.getD j Tk.zero) = false) := fun j hj => by
          by_cases e : j = k
          · subst e; exact hq
          · exact HM.out j (by omega)
        rw [hq] at hcall
        clear hq HM
        generalize ts.getD k Tk.zero = t at k0 k1 k2 k3 k4 hcall
        have HC := Lib.hid hcall
        clear hcall
        go_wp2_with (go_at_fn g; refine HC.out.mono ?_; rintro e w' ⟨rfl, hb'⟩)
        go_roundw
        case rel => exact ⟨k + 1, by omega, by go_num, hnext, hb'⟩
        case measure => simp [intOf]; omega
    · have hfin := Lib.hid (idxBy_miss Tk.zero p ts 0 (fun j hj => HM.out j (by have := HR.out.len; omega)))
      have hge : ¬ ((k : Int) < (n : Int)) := by omega
      clear HP HM
      go_wp2
      go_ret
      exact ⟨by rw [hfin.out]; rfl, HB.out⟩
end Go.Proofs.Ytlkpmlcmgggifaa
