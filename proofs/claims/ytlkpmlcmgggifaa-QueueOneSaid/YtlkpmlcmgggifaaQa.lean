/- Contracts of the leaves: comparisons, an index among numbers, the ticket's order. -/
import Derived.Test.YtlkpmlcmgggifaaWa
import Derived.Outline
import Derived.Deep.RegionHeld3
import Derived.BigQuiet
import Derived.Shelf.Abstract
set_option linter.unusedVariables false
set_option linter.unusedSimpArgs false
namespace Go.Proofs.Ytlkpmlcmgggifaa
open Go.RowKit
def cmpI (a b : Int) : Int := if a < b then -1 else if a > b then 1 else 0
set_option maxHeartbeats 400000 in
theorem cmp64 (a b : Int) (w : World) : Calls Try.prog 98 #[.int .i64 a, .int .i64 b] w fun e w' => e = .returned (.int .i64 (cmpI a b)) ∧ w = w' := by
  by_cases h1 : a < b
  · rw [show cmpI a b = -1 by simp [cmpI, h1]]
    go_enter Try.func98, Try.ntmps98
    go_wp2
    go_ret
    exact ⟨rfl, rfl⟩
  · by_cases h2 : b < a
    · rw [show cmpI a b = 1 by simp [cmpI, h1, h2]]
      go_enter Try.func98, Try.ntmps98
      go_wp2
      go_ret
      exact ⟨rfl, rfl⟩
    · rw [show cmpI a b = 0 by simp [cmpI, h1, h2]]
      go_enter Try.func98, Try.ntmps98
      go_wp2
      go_ret
      exact ⟨rfl, rfl⟩
set_option maxHeartbeats 400000 in
theorem cmp32 (a b : Int) (w : World) : Calls Try.prog 99 #[.int .u32 a, .int .u32 b] w fun e w' => e = .returned (.int .i64 (cmpI a b)) ∧ w = w' := by
  by_cases h1 : a < b
  · rw [show cmpI a b = -1 by simp [cmpI, h1]]
    go_enter Try.func99, Try.ntmps99
    go_wp2
    go_ret
    exact ⟨rfl, rfl⟩
  · by_cases h2 : b < a
    · rw [show cmpI a b = 1 by simp [cmpI, h1, h2]]
      go_enter Try.func99, Try.ntmps99
      go_wp2
      go_ret
      exact ⟨rfl, rfl⟩
    · rw [show cmpI a b = 0 by simp [cmpI, h1, h2]]
      go_enter Try.func99, Try.ntmps99
      go_wp2
      go_ret
      exact ⟨rfl, rfl⟩
def cmpOr (a b : Int) : Int := if a = 0 then b else a
set_option maxHeartbeats 400000 in
theorem or_two (g : Nat) (a b : Int) (w : World) (h0 : w.cell? ⟨g, 0, none⟩ = some (.int .i64 a)) (h1 : w.cell? ⟨g, 1, none⟩ = some (.int .i64 b)) :
    Calls Try.prog 97 #[.slice (some ⟨g, 0, none⟩) 2 2] w fun e w' => e = .returned (.int .i64 (cmpOr a b)) ∧ w = w' := by
  by_cases ha : a = 0
  · by_cases hb : b = 0
    · rw [show cmpOr a b = 0 by simp [cmpOr, ha, hb]]; subst ha; subst hb
      go_enter Try.func97, Try.ntmps97
      go_wp2_with fail
      refine wp_loop_rounds 3 ?_; rw [rounds_succ]
      go_wp2
      rw [rounds_succ]; go_wp2
      rw [rounds_succ]; go_wp2
      go_ret
      exact ⟨rfl, rfl⟩
    · have hb' : (b != 0) = true := by simpa using hb
      rw [show cmpOr a b = b by simp [cmpOr, ha]]; subst ha
      go_enter Try.func97, Try.ntmps97
      go_wp2_with fail
      refine wp_loop_rounds 2 ?_; rw [rounds_succ]
      go_wp2
      rw [rounds_succ]; go_wp2
      go_ret
      exact ⟨rfl, rfl⟩
  · have hb' : (a != 0) = true := by simpa using ha
    rw [show cmpOr a b = a by simp [cmpOr, ha]]
    go_enter Try.func97, Try.ntmps97
    go_wp2_with fail
    refine wp_loop_rounds 2 ?_; rw [rounds_succ]
    go_wp2
    go_ret
    exact ⟨rfl, rfl⟩
theorem cell_three (w : World) (o1 o2 : Obj) (cs : Array Value) (t : TypeId) (j : Nat) (v : Value) (h : cs[j]? = some v) : (((w.alloc o1).alloc o2).alloc (.cells cs t)).drew.cell? ⟨w.heap.size + 1 + 1, j, none⟩ = some v := by
  rw [World.cell?_drew, World.cell?_alloc_at _ _ _ _ (by simp), h]
/-- order's answer -/
def ordI (a0 a4 b0 b4 : Int) : Int := cmpOr (cmpI a4 b4) (cmpI a0 b0)
set_option maxHeartbeats 800000 in
set_option maxRecDepth 100000 in
theorem order_any (a0 a1 a3 a4 b0 b1 b3 b4 : Int) (a2 b2 : Value) (w : World) (h1 : a2.oneCell' = true) (h2 : b2.oneCell' = true) :
    Calls Try.prog 54 #[.agg #[.int .u32 a0, .int .i64 a1, a2, .int .i64 a3, .int .i64 a4], .agg #[.int .u32 b0, .int .i64 b1, b2, .int .i64 b3, .int .i64 b4]] w fun e w' =>
      e = .returned (.int .i64 (ordI a0 a4 b0 b4)) ∧ Below w.heap.size w w' := by
  unfold ordI
  go_enter Try.func54, Try.ntmps54
  go_wp2_with fail
  go_region_held3 (fun w' => w'.cell? ⟨w.heap.size, 0, none⟩ = some (.int .u32 a0) ∧ w'.cell? ⟨w.heap.size, 4, none⟩ = some (.int .i64 a4) ∧ w'.cell? ⟨w.heap.size + 1, 0, none⟩ = some (.int .u32 b0) ∧ w'.cell? ⟨w.heap.size + 1, 4, none⟩ = some (.int .i64 b4)) (go_keep)
    (first | (go_at_call 98; refine (cmp64 _ _ _).mono ?_; rintro e w' ⟨rfl, rfl⟩) | (go_at_call 99; refine (cmp32 _ _ _).mono ?_; rintro e w' ⟨rfl, rfl⟩) | (go_at_call 97; refine (or_two _ (cmpI a4 b4) (cmpI a0 b0) _ ?_ ?_).mono ?_; exact cell_three w _ _ _ _ 0 _ rfl; exact cell_three w _ _ _ _ 1 _ rfl; rintro e w' ⟨rfl, rfl⟩))
  go_wp2
  go_ret
  exact ⟨rfl, ((((Below.refl _ _).alloc (Nat.le_refl _) _).alloc (by simp) _).alloc (by simp; omega) _).drew⟩

/-- v shows the numbers xs (of kind k). -/
def Shows (w : World) (k : IntKind) (v : Value) (xs : List Int) : Prop :=
  (v = .slice none 0 0 ∧ xs = []) ∨ ∃ b off c, v = .slice (some ⟨b, off, none⟩) xs.length c ∧ xs.length ≤ c ∧ c ≤ maxLen ∧ b < w.heap.size ∧ ∀ i, i < xs.length → w.cell? ⟨b, off + i, none⟩ = some (.int k (xs.getD i 0))
theorem Shows.below {w w' : World} {k : IntKind} {v : Value} {xs : List Int} (h : Shows w k v xs) (hb : Below w.heap.size w w') : Shows w' k v xs := by
  rcases h with h | ⟨b, off, c, rfl, hlc, hm, hlt, hc⟩
  · exact .inl h
  · exact .inr ⟨b, off, c, rfl, hlc, hm, Nat.lt_of_lt_of_le hlt hb.size, fun i hi => (hb.cell (p := ⟨b, off + i, none⟩) hlt).trans (hc i hi)⟩
theorem Shows.kept {w w' : World} {S : Nat → Prop} {k : IntKind} {v : Value} {xs : List Int} (h : Shows w k v xs) (hb : Kept w w' S) (hn : ∀ j, v.ownBlock = some j → ¬ S j) : Shows w' k v xs := by
  rcases h with h | ⟨b, off, c, rfl, hlc, hm, hlt, hc⟩
  · exact .inl h
  · exact .inr ⟨b, off, c, rfl, hlc, hm, Nat.lt_of_lt_of_le hlt hb.size, fun i hi => (hb.cell (p := ⟨b, off + i, none⟩) hlt (hn b rfl)).trans (hc i hi)⟩
/-- An owned row of numbers. -/
def OwnN (w : World) (base : Nat) (e : TypeId) (k : IntKind) (v : Value) (xs : List Int) : Prop := w.ownsRow base e 1 v xs.length (xs.map (Value.int k))
theorem OwnN.shows {w : World} {base : Nat} {e : TypeId} {k : IntKind} {v : Value} {xs : List Int} (h : OwnN w base e k v xs) : Shows w k v xs := by
  rcases h.2 with ⟨rfl, hn⟩ | ⟨g, cap, cur, rfl, hb, hgg, hnc, hcm, hcs, ht⟩
  · exact .inl ⟨rfl, List.eq_nil_of_length_eq_zero hn⟩
  · refine .inr ⟨g, 0, cap, rfl, hnc, hcm, (Array.getElem?_eq_some_iff.1 hgg).1, fun i hi => ?_⟩
    have h1 : w.ownsRow base e 1 (.slice (some ⟨g, 0, none⟩) xs.length cap) xs.length (xs.map (Value.int k)) := h
    rw [Nat.zero_add, h1.cellAt i (by omega)]
    simp [hi]
theorem shows_oneCell {w : World} {k : IntKind} {v : Value} {xs : List Int} (h : Shows w k v xs) : v.oneCell' = true := by
  rcases h with ⟨rfl, _⟩ | ⟨b, off, c, rfl, _⟩ <;> rfl

def idxOf (x : Int) : List Int → Int → Int
  | [], _ => -1
  | y :: r, i => if x = y then i else idxOf x r (i + 1)
theorem idxOf_miss (x : Int) (xs : List Int) : ∀ i, (∀ j, j < xs.length → x ≠ xs.getD j 0) → idxOf x xs i = -1 := by
  induction xs with
  | nil => intro i _; rfl
  | cons y r ih =>
    intro i h
    have h0 : x ≠ y := by simpa using h 0 (by simp)
    simp only [idxOf, if_neg h0]
    exact ih _ (fun j hj => by simpa using h (j + 1) (by simp; omega))
theorem idxOf_hit (x : Int) (xs : List Int) : ∀ i k, k < xs.length → (∀ j, j < k → x ≠ xs.getD j 0) → x = xs.getD k 0 → idxOf x xs i = i + k := by
  induction xs with
  | nil => intro i k hk; simp at hk
  | cons y r ih =>
    intro i k hk h hx
    cases k with
    | zero => simp at hx; simp [idxOf, hx]
    | succ k =>
      have h0 : x ≠ y := by simpa using h 0 (by simp)
      simp only [idxOf, if_neg h0]
      rw [ih (i + 1) k (by simpa using hk) (fun j hj => by simpa using h (j + 1) (by omega)) (by simpa using hx)]
      push_cast; omega
theorem idxOf_mem (x : Int) (xs : List Int) : ∀ i, 0 ≤ i → (0 ≤ idxOf x xs i ↔ x ∈ xs) := by
  induction xs with
  | nil => intro i hi; simp [idxOf]
  | cons y r ih =>
    intro i hi
    by_cases h : x = y
    · simp [idxOf, h, hi]
    · simp [idxOf, h, ih (i + 1) (by omega)]
set_option maxHeartbeats 400000 in
theorem index32_at (b off n c : Nat) (x : Int) (xs : List Int) (w : World) (hn : xs.length = n) (hm : n ≤ maxLen) (hc : ∀ i, i < n → w.cell? ⟨b, off + i, none⟩ = some (.int .u32 (xs.getD i 0))) :
    Calls Try.prog 103 #[.slice (some ⟨b, off, none⟩) n c, .int .u32 x] w fun e w' => e = .returned (.int .i64 (idxOf x xs 0)) ∧ w = w' := by
  unfold maxLen at hm
  have HN := Lib.hid hn
  clear hn
  go_enter Try.func103, Try.ntmps103
  go_wp2
  go_loop [8] (fun i => ∃ k : Nat, k ≤ n ∧ i = .int .i64 k ∧ Hid (∀ j, j < k → x ≠ xs.getD j 0)) (fun i => n - (intOf i).toNat)
  case atStart => exact ⟨0, Nat.zero_le _, rfl, fun j hj => absurd hj (by omega)⟩
  case round =>
    obtain ⟨k, hk, rfl, HM⟩ := hrel
    by_cases hlt : k < n
    · have hck := hc k hlt
      by_cases hx : x = xs.getD k 0
      · have hfin := Lib.hid (idxOf_hit x xs 0 k (by rw [HN.out]; exact hlt) HM.out hx)
        have hb : (x == xs.getD k 0) = true := by simpa using hx
        clear hx hc
        generalize xs.getD k 0 = y at hck hb
        go_wp2
        go_ret
        exact ⟨by rw [hfin.out]; simp, rfl⟩
      · have hnext : Hid (∀ j, j < k + 1 → x ≠ xs.getD j 0) := fun j hj => by
          by_cases e : j = k
          · subst e; exact hx
          · exact HM.out j (by omega)
        have hb : (x == xs.getD k 0) = false := by simpa using hx
        clear hx hc HM
        generalize xs.getD k 0 = y at hck hb
        go_wp2
        go_round
        case rel => exact ⟨k + 1, by omega, by go_num, hnext⟩
        case measure => simp [intOf]; omega
    · have hfin := Lib.hid (idxOf_miss x xs 0 (fun j hj => HM.out j (by have := HN.out; omega)))
      clear hc
      have hge : ¬ ((k : Int) < (n : Int)) := by omega
      go_wp2
      go_ret
      exact ⟨by rw [hfin.out]; rfl, rfl⟩
theorem index32 (x : Int) (xs : List Int) (v : Value) (w : World) (hs : Shows w .u32 v xs) :
    Calls Try.prog 103 #[v, .int .u32 x] w fun e w' => e = .returned (.int .i64 (idxOf x xs 0)) ∧ w = w' := by
  rcases hs with ⟨rfl, rfl⟩ | ⟨b, off, c, rfl, hlc, hm, _, hc⟩
  · go_enter Try.func103, Try.ntmps103
    go_wp2_with fail
    refine wp_loop_rounds 1 ?_; rw [rounds_succ]
    go_wp2
    go_ret
    exact ⟨rfl, rfl⟩
  · exact index32_at b off _ c x xs w rfl (Nat.le_trans hlc hm) hc
theorem contains32 (x : Int) (xs : List Int) (v : Value) (w : World) (hs : Shows w .u32 v xs) :
    Calls Try.prog 62 #[v, .int .u32 x] w fun e w' => e = .returned (.bool (decide (x ∈ xs))) ∧ w = w' := by
  rw [show decide (x ∈ xs) = decide (0 ≤ idxOf x xs 0) from decide_eq_decide.2 (idxOf_mem x xs 0 (Int.le_refl 0)).symm]
  have HS := Lib.hid hs
  clear hs
  generalize hr : idxOf x xs 0 = r
  have HR := Lib.hid hr
  clear hr
  go_enter Try.func62, Try.ntmps62
  go_wp2_with (go_at_call 103; refine (index32 _ _ _ _ HS.out).mono ?_; rintro e w' ⟨rfl, rfl⟩; rw [HR.out])
  go_ret
  exact ⟨rfl, rfl⟩
end Go.Proofs.Ytlkpmlcmgggifaa
