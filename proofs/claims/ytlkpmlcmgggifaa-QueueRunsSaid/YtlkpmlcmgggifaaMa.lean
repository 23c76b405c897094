/- Words for the contracts: which blocks a call may have turned, rows that the call owns, and plain facts on them. -/
import Derived.Test.YtlkpmlcmgggifaaProg
import Derived.WalkKit
import Derived.WalkLawsBesides
import Derived.WalkSpells
import Derived.Lib.Hide
import Derived.Lib.SliceRun
import Derived.Deep.AppendLies
import Derived.Outline
import Derived.Deep.RegionHeld3
import Derived.BigQuiet
import Derived.Shelf.Abstract
import Derived.Deep.LoopGhost
import Derived.Laws.EntriesVeiled
import Derived.Laws.CopyOwn
set_option linter.unusedVariables false
set_option linter.unusedSimpArgs false
namespace Go.Proofs.Ytlkpmlcmgggifaa
open Go.RowKit

/-- Of what was there only the blocks of S may have turned. -/
structure Kept (w w' : World) (S : Nat → Prop) : Prop where
  os : w'.os = w.os
  tape : w'.tape = w.tape
  output : w'.output = w.output
  size : w.heap.size ≤ w'.heap.size
  block : ∀ k, k < w.heap.size → ¬ S k → w'.heap[k]? = w.heap[k]?

theorem Kept.refl (w : World) (S : Nat → Prop) : Kept w w S := ⟨rfl, rfl, rfl, Nat.le_refl _, fun _ _ _ => rfl⟩
theorem Kept.trans {w w1 w2 : World} {S S' : Nat → Prop} (h : Kept w w1 S) (k : Kept w1 w2 S') (hs : ∀ j, j < w.heap.size → S' j → S j) : Kept w w2 S :=
  ⟨k.os.trans h.os, k.tape.trans h.tape, k.output.trans h.output, Nat.le_trans h.size k.size,
    fun j hj hn => (k.block j (Nat.lt_of_lt_of_le hj h.size) (fun c => hn (hs j hj c))).trans (h.block j hj hn)⟩
theorem Kept.mono {w w1 : World} {S S' : Nat → Prop} (h : Kept w w1 S) (hs : ∀ j, j < w.heap.size → S j → S' j) : Kept w w1 S' :=
  ⟨h.os, h.tape, h.output, h.size, fun j hj hn => h.block j hj (fun c => hn (hs j hj c))⟩
theorem kept_of_below {w w1 : World} (h : Below w.heap.size w w1) (S : Nat → Prop) : Kept w w1 S :=
  ⟨h.os, h.tape, h.output, h.size, fun j hj _ => h.block j hj⟩
theorem below_of_kept {w w1 : World} {S : Nat → Prop} (h : Kept w w1 S) {B : Nat} (hB : B ≤ w.heap.size) (hs : ∀ j, j < B → ¬ S j) : Below B w w1 :=
  ⟨h.os, h.tape, h.output, h.size, fun j hj => h.block j (Nat.lt_of_lt_of_le hj hB) (hs j hj)⟩
theorem kept_of_grown {w w1 : World} {row : Option Nat} (h : w.grownBy w1 row) : Kept w w1 (fun k => row = some k) :=
  ⟨h.os, h.tape, h.output, h.size, fun j hj hn => h.block j hj (fun e => hn e.symm)⟩
theorem Kept.setCell {w w1 : World} {S : Nat → Prop} (h : Kept w w1 S) {a : Addr} (ha : a.block < w.heap.size → S a.block) (v : Value) : Kept w (w1.setCell a v) S :=
  ⟨h.os, h.tape, h.output, by simpa [World.setCell] using h.size, fun k hk hn => by
    rw [Below.heap_setCell _ _ _ _ (fun e => hn (by subst e; exact ha hk))]; exact h.block k hk hn⟩
theorem Kept.alloc {w w1 : World} {S : Nat → Prop} (h : Kept w w1 S) (o : Obj) : Kept w (w1.alloc o) S :=
  ⟨h.os, h.tape, h.output, by have := h.size; simp; omega, fun k hk hn => (Below.heap_alloc _ _ _ (Nat.lt_of_lt_of_le hk h.size)).trans (h.block k hk hn)⟩
theorem Kept.drew {w w1 : World} {S : Nat → Prop} (h : Kept w w1 S) : Kept w w1.drew S := ⟨h.os, h.tape, h.output, h.size, h.block⟩
theorem Kept.cell {w w1 : World} {S : Nat → Prop} (h : Kept w w1 S) {p : Addr} (hp : p.block < w.heap.size) (hn : ¬ S p.block) : w1.cell? p = w.cell? p := World.cell?_of_block (w := w) (h.block p.block hp hn)
theorem Kept.frozen {w w1 : World} {S : Nat → Prop} (h : Kept w w1 S) {p : Addr} (hp : p.block < w.heap.size) (hn : ¬ S p.block) : w1.frozen? p = w.frozen? p := World.frozen?_of_block (w := w) (h.block p.block hp hn)

/-- An owned row stays where its block has not turned. -/
theorem own_kept {w w' : World} {S : Nat → Prop} {base : Nat} {e : TypeId} {size : Nat} {v : Value} {n : Nat} {xs : List Value} (h : w.ownsRow base e size v n xs) (hk : Kept w w' S)
    (hn : ∀ k, v.ownBlock = some k → ¬ S k) : w'.ownsRow base e size v n xs := by
  refine ⟨h.1, ?_⟩
  rcases h.2 with hn' | ⟨g, cap, cur, rfl, hb, hgg, rest⟩
  · exact .inl hn'
  · exact .inr ⟨g, cap, cur, rfl, hb, by rw [hk.block g (Array.getElem?_eq_some_iff.1 hgg).1 (hn g rfl)]; exact hgg, rest⟩
theorem own_below {w w' : World} {base : Nat} {e : TypeId} {size : Nat} {v : Value} {n : Nat} {xs : List Value} (h : w.ownsRow base e size v n xs) (hk : Below w.heap.size w w') : w'.ownsRow base e size v n xs :=
  own_kept h (kept_of_below hk (fun _ => False)) (fun _ _ c => c)
theorem own_mono {w : World} {base base' : Nat} {e : TypeId} {size : Nat} {v : Value} {n : Nat} {xs : List Value} (h : w.ownsRow base e size v n xs) (hb : base' ≤ base) : w.ownsRow base' e size v n xs := by
  refine ⟨h.1, ?_⟩
  rcases h.2 with hn' | ⟨g, cap, cur, rfl, hbg, rest⟩
  · exact .inl hn'
  · exact .inr ⟨g, cap, cur, rfl, Nat.le_trans hb hbg, rest⟩

/-- A block of cells. -/
def Blk (w : World) (g : Nat) (cs : Array Value) (t : TypeId) : Prop := w.heap[g]? = some (.cells cs t (0, 0))
theorem Blk.lt {w : World} {g : Nat} {cs : Array Value} {t : TypeId} (h : Blk w g cs t) : g < w.heap.size := (Array.getElem?_eq_some_iff.1 h).1
theorem Blk.cell {w : World} {g : Nat} {cs : Array Value} {t : TypeId} (h : Blk w g cs t) (j : Nat) : w.cell? ⟨g, j, none⟩ = cs[j]? := cell_of_row w g j cs t (0, 0) h
theorem Blk.frozen {w : World} {g : Nat} {cs : Array Value} {t : TypeId} (h : Blk w g cs t) (j : Nat) : w.frozen? ⟨g, j, none⟩ = false := frozen_of_row w g j cs t h
theorem Blk.kept {w w' : World} {S : Nat → Prop} {g : Nat} {cs : Array Value} {t : TypeId} (h : Blk w g cs t) (hk : Kept w w' S) (hn : ¬ S g) : Blk w' g cs t := (hk.block g h.lt hn).trans h
theorem Blk.below {w w' : World} {g : Nat} {cs : Array Value} {t : TypeId} (h : Blk w g cs t) (hk : Below w.heap.size w w') : Blk w' g cs t := (hk.block g h.lt).trans h
theorem Blk.ne {w : World} {g g' : Nat} {cs cs' : Array Value} {t t' : TypeId} (h : Blk w g cs t) (h' : Blk w g' cs' t') (hne : t ≠ t') : g ≠ g' := by
  intro e; subst e
  have := Option.some.inj (h.symm.trans h')
  injection this with _ e2 _
  exact hne e2
theorem own_blk {w : World} {base : Nat} {e : TypeId} {size : Nat} {v : Value} {n : Nat} {xs : List Value} (h : w.ownsRow base e size v n xs) {k : Nat} (hk : v.ownBlock = some k) : ∃ cur, Blk w k cur e ∧ base ≤ k := by
  rcases h.2 with ⟨rfl, _⟩ | ⟨g, cap, cur, rfl, hb, hgg, rest⟩
  · cases hk
  · simp [Value.ownBlock] at hk; subst hk; exact ⟨cur, hgg, hb⟩

theorem own_setCell {w : World} {base : Nat} {e : TypeId} {size : Nat} {v : Value} {n : Nat} {xs : List Value} (h : w.ownsRow base e size v n xs) {a : Addr} (hne : ∀ k, v.ownBlock = some k → k ≠ a.block) (u : Value) : (w.setCell a u).ownsRow base e size v n xs :=
  own_kept h (Kept.setCell (S := fun k => k = a.block) (Kept.refl _ _) (fun _ => rfl) u) (fun k e => hne k e)
theorem own_ne {w : World} {base : Nat} {e : TypeId} {size : Nat} {v : Value} {n : Nat} {xs : List Value} (h : w.ownsRow base e size v n xs) {g : Nat} {cs : Array Value} {t : TypeId} (hb : Blk w g cs t) (hne : e ≠ t) : ∀ k, v.ownBlock = some k → k ≠ g := fun k hk => by
  obtain ⟨cur, h1, _⟩ := own_blk h hk
  exact h1.ne hb hne
theorem below_ref (w : World) : Below w.heap.size w w := Below.refl _ _
theorem below_then {w w1 w2 : World} (h : Below w.heap.size w w1) (k : Below w1.heap.size w1 w2) : Below w.heap.size w w2 := h.trans (k.mono h.size)
/-- all old cells and marks read as before -/
theorem bcell {W w1 : World} (hb : Below W.heap.size W w1) : (∀ b o, b < W.heap.size → w1.cell? ⟨b, o, none⟩ = W.cell? ⟨b, o, none⟩) ∧ (∀ b o, b < W.heap.size → w1.frozen? ⟨b, o, none⟩ = W.frozen? ⟨b, o, none⟩) :=
  ⟨fun b o h => hb.cell (p := ⟨b, o, none⟩) h, fun b o h => hb.frozen (p := ⟨b, o, none⟩) h⟩
end Go.Proofs.Ytlkpmlcmgggifaa
namespace Go.Proofs.Ytlkpmlcmgggifaa
open Go.RowKit
def cmpI (a b : Int) : Int := if a < b then -1 else if a > b then 1 else 0
set_option maxHeartbeats 400000 in
theorem cmp64 (a b : Int) (w : World) : Calls Try.prog 98 #[.int .i64 a, .int .i64 b] w fun e w' => e = .returned (.int .i64 (cmpI a b)) ∧ w = w' := by
  by_cases h1 : a < b
  · rw [show cmpI a b = -1 by simp [cmpI, h1]]
    go_enter Try.func98, Try.ntmps98
    go_wp2
    go_ret
    exact ⟨rfl, rfl⟩
  · by_cases h2 : b < a
    · rw [show cmpI a b = 1 by simp [cmpI, h1, h2]]
      go_enter Try.func98, Try.ntmps98
      go_wp2
      go_ret
      exact ⟨rfl, rfl⟩
    · rw [show cmpI a b = 0 by simp [cmpI, h1, h2]]
      go_enter Try.func98, Try.ntmps98
      go_wp2
      go_ret
      exact ⟨rfl, rfl⟩
set_option maxHeartbeats 400000 in
theorem cmp32 (a b : Int) (w : World) : Calls Try.prog 99 #[.int .u32 a, .int .u32 b] w fun e w' => e = .returned (.int .i64 (cmpI a b)) ∧ w = w' := by
  by_cases h1 : a < b
  · rw [show cmpI a b = -1 by simp [cmpI, h1]]
    go_enter Try.func99, Try.ntmps99
    go_wp2
    go_ret
    exact ⟨rfl, rfl⟩
  · by_cases h2 : b < a
    · rw [show cmpI a b = 1 by simp [cmpI, h1, h2]]
      go_enter Try.func99, Try.ntmps99
      go_wp2
      go_ret
      exact ⟨rfl, rfl⟩
    · rw [show cmpI a b = 0 by simp [cmpI, h1, h2]]
      go_enter Try.func99, Try.ntmps99
      go_wp2
      go_ret
      exact ⟨rfl, rfl⟩
def cmpOr (a b : Int) : Int := if a = 0 then b else a
set_option maxHeartbeats 400000 in
theorem or_two (g : Nat) (a b : Int) (w : World) (h0 : w.cell? ⟨g, 0, none⟩ = some (.int .i64 a)) (h1 : w.cell? ⟨g, 1, none⟩ = some (.int .i64 b)) :
    Calls Try.prog 97 #[.slice (some ⟨g, 0, none⟩) 2 2] w fun e w' => e = .returned (.int .i64 (cmpOr a b)) ∧ w = w' := by
  by_cases ha : a = 0
  · by_cases hb : b = 0
    · rw [show cmpOr a b = 0 by simp [cmpOr, ha, hb]]; subst ha; subst hb
      go_enter Try.func97, Try.ntmps97
      go_wp2_with fail
      refine wp_loop_rounds 3 ?_; rw [rounds_succ]
      go_wp2
      rw [rounds_succ]; go_wp2
      rw [rounds_succ]; go_wp2
      go_ret
      exact ⟨rfl, rfl⟩
    · have hb' : (b != 0) = true := by simpa using hb
      rw [show cmpOr a b = b by simp [cmpOr, ha]]; subst ha
      go_enter Try.func97, Try.ntmps97
      go_wp2_with fail
      refine wp_loop_rounds 2 ?_; rw [rounds_succ]
      go_wp2
      rw [rounds_succ]; go_wp2
      go_ret
      exact ⟨rfl, rfl⟩
  · have hb' : (a != 0) = true := by simpa using ha
    rw [show cmpOr a b = a by simp [cmpOr, ha]]
    go_enter Try.func97, Try.ntmps97
    go_wp2_with fail
    refine wp_loop_rounds 2 ?_; rw [rounds_succ]
    go_wp2
    go_ret
    exact ⟨rfl, rfl⟩
theorem cell_three (w : World) (o1 o2 : Obj) (cs : Array Value) (t : TypeId) (j : Nat) (v : Value) (h : cs[j]? = some v) : (((w.alloc o1).alloc o2).alloc (.cells cs t)).drew.cell? ⟨w.heap.size + 1 + 1, j, none⟩ = some v := by
  rw [World.cell?_drew, World.cell?_alloc_at _ _ _ _ (by simp), h]
/-- order's answer -/
def ordI (a0 a4 b0 b4 : Int) : Int := cmpOr (cmpI a4 b4) (cmpI a0 b0)
set_option maxHeartbeats 800000 in
set_option maxRecDepth 100000 in
theorem order_any (a0 a1 a3 a4 b0 b1 b3 b4 : Int) (a2 b2 : Value) (w : World) (h1 : a2.oneCell' = true) (h2 : b2.oneCell' = true) :
    Calls Try.prog 54 #[.agg #[.int .u32 a0, .int .i64 a1, a2, .int .i64 a3, .int .i64 a4], .agg #[.int .u32 b0, .int .i64 b1, b2, .int .i64 b3, .int .i64 b4]] w fun e w' =>
      e = .returned (.int .i64 (ordI a0 a4 b0 b4)) ∧ Below w.heap.size w w' := by
  unfold ordI
  go_enter Try.func54, Try.ntmps54
  go_wp2_with fail
  go_region_held3 (fun w' => w'.cell? ⟨w.heap.size, 0, none⟩ = some (.int .u32 a0) ∧ w'.cell? ⟨w.heap.size, 4, none⟩ = some (.int .i64 a4) ∧ w'.cell? ⟨w.heap.size + 1, 0, none⟩ = some (.int .u32 b0) ∧ w'.cell? ⟨w.heap.size + 1, 4, none⟩ = some (.int .i64 b4)) (go_keep)
    (first | (go_at_call 98; refine (cmp64 _ _ _).mono ?_; rintro e w' ⟨rfl, rfl⟩) | (go_at_call 99; refine (cmp32 _ _ _).mono ?_; rintro e w' ⟨rfl, rfl⟩) | (go_at_call 97; refine (or_two _ (cmpI a4 b4) (cmpI a0 b0) _ ?_ ?_).mono ?_; exact cell_three w _ _ _ _ 0 _ rfl; exact cell_three w _ _ _ _ 1 _ rfl; rintro e w' ⟨rfl, rfl⟩))
  go_wp2
  go_ret
  exact ⟨rfl, ((((Below.refl _ _).alloc (Nat.le_refl _) _).alloc (by simp) _).alloc (by simp; omega) _).drew⟩

/-- v shows the numbers xs (of kind k). -/
def Shows (w : World) (k : IntKind) (v : Value) (xs : List Int) : Prop :=
  (v = .slice none 0 0 ∧ xs = []) ∨ ∃ b off c, v = .slice (some ⟨b, off, none⟩) xs.length c ∧ xs.length ≤ c ∧ c ≤ maxLen ∧ b < w.heap.size ∧ ∀ i, i < xs.length → w.cell? ⟨b, off + i, none⟩ = some (.int k (xs.getD i 0))
theorem Shows.below {w w' : World} {k : IntKind} {v : Value} {xs : List Int} (h : Shows w k v xs) (hb : Below w.heap.size w w') : Shows w' k v xs := by
  rcases h with h | ⟨b, off, c, rfl, hlc, hm, hlt, hc⟩
  · exact .inl h
  · exact .inr ⟨b, off, c, rfl, hlc, hm, Nat.lt_of_lt_of_le hlt hb.size, fun i hi => (hb.cell (p := ⟨b, off + i, none⟩) hlt).trans (hc i hi)⟩
theorem Shows.kept {w w' : World} {S : Nat → Prop} {k : IntKind} {v : Value} {xs : List Int} (h : Shows w k v xs) (hb : Kept w w' S) (hn : ∀ j, v.ownBlock = some j → ¬ S j) : Shows w' k v xs := by
  rcases h with h | ⟨b, off, c, rfl, hlc, hm, hlt, hc⟩
  · exact .inl h
  · exact .inr ⟨b, off, c, rfl, hlc, hm, Nat.lt_of_lt_of_le hlt hb.size, fun i hi => (hb.cell (p := ⟨b, off + i, none⟩) hlt (hn b rfl)).trans (hc i hi)⟩
/-- An owned row of numbers. -/
def OwnN (w : World) (base : Nat) (e : TypeId) (k : IntKind) (v : Value) (xs : List Int) : Prop := w.ownsRow base e 1 v xs.length (xs.map (Value.int k))
theorem OwnN.shows {w : World} {base : Nat} {e : TypeId} {k : IntKind} {v : Value} {xs : List Int} (h : OwnN w base e k v xs) : Shows w k v xs := by
  rcases h.2 with ⟨rfl, hn⟩ | ⟨g, cap, cur, rfl, hb, hgg, hnc, hcm, hcs, ht⟩
  · exact .inl ⟨rfl, List.eq_nil_of_length_eq_zero hn⟩
  · refine .inr ⟨g, 0, cap, rfl, hnc, hcm, (Array.getElem?_eq_some_iff.1 hgg).1, fun i hi => ?_⟩
    have h1 : w.ownsRow base e 1 (.slice (some ⟨g, 0, none⟩) xs.length cap) xs.length (xs.map (Value.int k)) := h
    rw [Nat.zero_add, h1.cellAt i (by omega)]
    simp [hi]
theorem shows_oneCell {w : World} {k : IntKind} {v : Value} {xs : List Int} (h : Shows w k v xs) : v.oneCell' = true := by
  rcases h with ⟨rfl, _⟩ | ⟨b, off, c, rfl, _⟩ <;> rfl

def idxOf (x : Int) : List Int → Int → Int
  | [], _ => -1
  | y :: r, i => if x = y then i else idxOf x r (i + 1)
theorem idxOf_miss (x : Int) (xs : List Int) : ∀ i, (∀ j, j < xs.length → x ≠ xs.getD j 0) → idxOf x xs i = -1 := by
  induction xs with
  | nil => intro i _; rfl
  | cons y r ih =>
    intro i h
    have h0 : x ≠ y := by simpa using h 0 (by simp)
    simp only [idxOf, if_neg h0]
    exact ih _ (fun j hj => by simpa using h (j + 1) (by simp; omega))
theorem idxOf_hit (x : Int) (xs : List Int) : ∀ i k, k < xs.length → (∀ j, j < k → x ≠ xs.getD j 0) → x = xs.getD k 0 → idxOf x xs i = i + k := by
  induction xs with
  | nil => intro i k hk; simp at hk
  | cons y r ih =>
    intro i k hk h hx
    cases k with
    | zero => simp at hx; simp [idxOf, hx]
    | succ k =>
      have h0 : x ≠ y := by simpa using h 0 (by simp)
      simp only [idxOf, if_neg h0]
      rw [ih (i + 1) k (by simpa using hk) (fun j hj => by simpa using h (j + 1) (by omega)) (by simpa using hx)]
      push_cast; omega
theorem idxOf_mem (x : Int) (xs : List Int) : ∀ i, 0 ≤ i → (0 ≤ idxOf x xs i ↔ x ∈ xs) := by
  induction xs with
  | nil => intro i hi; simp [idxOf]
  | cons y r ih =>
    intro i hi
    by_cases h : x = y
    · simp [idxOf, h, hi]
    · simp [idxOf, h, ih (i + 1) (by omega)]
set_option maxHeartbeats 400000 in
theorem index32_at (b off n c : Nat) (x : Int) (xs : List Int) (w : World) (hn : xs.length = n) (hm : n ≤ maxLen) (hc : ∀ i, i < n → w.cell? ⟨b, off + i, none⟩ = some (.int .u32 (xs.getD i 0))) :
    Calls Try.prog 103 #[.slice (some ⟨b, off, none⟩) n c, .int .u32 x] w fun e w' => e = .returned (.int .i64 (idxOf x xs 0)) ∧ w = w' := by
  unfold maxLen at hm
  have HN := Lib.hid hn
  clear hn
  go_enter Try.func103, Try.ntmps103
  go_wp2
  go_loop [8] (fun i => ∃ k : Nat, k ≤ n ∧ i = .int .i64 k ∧ Hid (∀ j, j < k → x ≠ xs.getD j 0)) (fun i => n - (intOf i).toNat)
  case atStart => exact ⟨0, Nat.zero_le _, rfl, fun j hj => absurd hj (by omega)⟩
  case round =>
    obtain ⟨k, hk, rfl, HM⟩ := hrel
    by_cases hlt : k < n
    · have hck := hc k hlt
      by_cases hx : x = xs.getD k 0
      · have hfin := Lib.hid (idxOf_hit x xs 0 k (by rw [HN.out]; exact hlt) HM.out hx)
        have hb : (x == xs.getD k 0) = true := by simpa using hx
        clear hx hc
        generalize xs.getD k 0 = y at hck hb
        go_wp2
        go_ret
        exact ⟨by rw [hfin.out]; simp, rfl⟩
      · have hnext : Hid (∀ j, j < k + 1 → x ≠ xs.getD j 0) := fun j hj => by
          by_cases e : j = k
          · subst e; exact hx
          · exact HM.out j (by omega)
        have hb : (x == xs.getD k 0) = false := by simpa using hx
        clear hx hc HM
        generalize xs.getD k 0 = y at hck hb
        go_wp2
        go_round
        case rel => exact ⟨k + 1, by omega, by go_num, hnext⟩
        case measure => simp [intOf]; omega
    · have hfin := Lib.hid (idxOf_miss x xs 0 (fun j hj => HM.out j (by have := HN.out; omega)))
      clear hc
      have hge : ¬ ((k : Int) < (n : Int)) := by omega
      go_wp2
      go_ret
      exact ⟨by rw [hfin.out]; rfl, rfl⟩
theorem index32 (x : Int) (xs : List Int) (v : Value) (w : World) (hs : Shows w .u32 v xs) :
    Calls Try.prog 103 #[v, .int .u32 x] w fun e w' => e = .returned (.int .i64 (idxOf x xs 0)) ∧ w = w' := by
  rcases hs with ⟨rfl, rfl⟩ | ⟨b, off, c, rfl, hlc, hm, _, hc⟩
  · go_enter Try.func103, Try.ntmps103
    go_wp2_with fail
    refine wp_loop_rounds 1 ?_; rw [rounds_succ]
    go_wp2
    go_ret
    exact ⟨rfl, rfl⟩
  · exact index32_at b off _ c x xs w rfl (Nat.le_trans hlc hm) hc
theorem contains32 (x : Int) (xs : List Int) (v : Value) (w : World) (hs : Shows w .u32 v xs) :
    Calls Try.prog 62 #[v, .int .u32 x] w fun e w' => e = .returned (.bool (decide (x ∈ xs))) ∧ w = w' := by
  rw [show decide (x ∈ xs) = decide (0 ≤ idxOf x xs 0) from decide_eq_decide.2 (idxOf_mem x xs 0 (Int.le_refl 0)).symm]
  have HS := Lib.hid hs
  clear hs
  generalize hr : idxOf x xs 0 = r
  have HR := Lib.hid hr
  clear hr
  go_enter Try.func62, Try.ntmps62
  go_wp2_with (go_at_call 103; refine (index32 _ _ _ _ HS.out).mono ?_; rintro e w' ⟨rfl, rfl⟩; rw [HR.out])
  go_ret
  exact ⟨rfl, rfl⟩
end Go.Proofs.Ytlkpmlcmgggifaa
namespace Go.Proofs.Ytlkpmlcmgggifaa
open Go.RowKit

def idxBy {α : Type} (p : α → Bool) : List α → Int → Int
  | [], _ => -1
  | y :: r, i => if p y = true then i else idxBy p r (i + 1)
theorem idxBy_miss {α : Type} (d : α) (p : α → Bool) (xs : List α) : ∀ i, (∀ j, j < xs.length → p (xs.getD j d) = false) → idxBy p xs i = -1 := by
  induction xs with
  | nil => intro i _; rfl
  | cons y r ih =>
    intro i h
    have h0 : p y = false := by simpa using h 0 (by simp)
    simp only [idxBy, h0]
    exact ih _ (fun j hj => by simpa using h (j + 1) (by simp; omega))
theorem idxBy_hit {α : Type} (d : α) (p : α → Bool) (xs : List α) : ∀ i k, k < xs.length → (∀ j, j < k → p (xs.getD j d) = false) → p (xs.getD k d) = true → idxBy p xs i = i + k := by
  induction xs with
  | nil => intro i k hk; simp at hk
  | cons y r ih =>
    intro i k hk h hx
    cases k with
    | zero => simp at hx; simp [idxBy, hx]
    | succ k =>
      have h0 : p y = false := by simpa using h 0 (by simp)
      simp only [idxBy, h0]
      rw [show (if false = true then i else idxBy p r (i + 1)) = idxBy p r (i + 1) from rfl, ih (i + 1) k (by simpa using hk) (fun j hj => by simpa using h (j + 1) (by omega)) (by simpa using hx)]
      push_cast; omega
/-- what idxBy tells: none, or the first -/
theorem idxBy_cases_from {α : Type} (d : α) (p : α → Bool) (xs : List α) : ∀ i, (idxBy p xs i = -1 ∧ ∀ t ∈ xs, p t = false) ∨ ∃ k : Nat, k < xs.length ∧ idxBy p xs i = i + k ∧ p (xs.getD k d) = true ∧ ∀ j, j < k → p (xs.getD j d) = false := by
  induction xs with
  | nil => intro i; exact .inl ⟨rfl, fun t ht => by cases ht⟩
  | cons y r ih =>
    intro i
    cases hy : p y with
    | true => exact .inr ⟨0, by simp, by simp [idxBy, hy], by simpa using hy, fun j hj => absurd hj (by omega)⟩
    | false =>
      have e : idxBy p (y :: r) i = idxBy p r (i + 1) := by simp [idxBy, hy]
      rcases ih (i + 1) with ⟨h1, h2⟩ | ⟨k, h1, h2, h3, h4⟩
      · refine .inl ⟨by rw [e]; exact h1, fun t ht => ?_⟩
        rcases List.mem_cons.1 ht with rfl | ht
        · exact hy
        · exact h2 t ht
      · refine .inr ⟨k + 1, by simpa using h1, by rw [e, h2]; push_cast; omega, by simpa using h3, fun j hj => ?_⟩
        cases j with
        | zero => simpa using hy
        | succ j => simpa using h4 j (by omega)
theorem idxBy_cases {α : Type} (d : α) (p : α → Bool) (xs : List α) : (idxBy p xs 0 = -1 ∧ ∀ t ∈ xs, p t = false) ∨ ∃ k : Nat, k < xs.length ∧ idxBy p xs 0 = k ∧ p (xs.getD k d) = true ∧ ∀ j, j < k → p (xs.getD j d) = false := by
  simpa using idxBy_cases_from d p xs 0

structure Tk where
  id : Int
  mode : Int
  pv : Value
  pl : List Int
  rating : Int
  since : Int
def Tk.zero : Tk := ⟨0, 0, .slice none 0 0, [], 0, 0⟩
def Tk.cs (t : Tk) : List Value := [.int .u32 t.id, .int .i64 t.mode, t.pv, .int .i64 t.rating, .int .i64 t.since]

/-- A row of tickets, cell by cell. -/
structure TRow (w : World) (b off n : Nat) (ts : List Tk) : Prop where
  len : ts.length = n
  lt : 0 < n → b < w.heap.size
  c0 : ∀ i, i < n → w.cell? ⟨b, off + i * 5, none⟩ = some (.int .u32 (ts.getD i Tk.zero).id)
  c1 : ∀ i, i < n → w.cell? ⟨b, off + i * 5 + 1, none⟩ = some (.int .i64 (ts.getD i Tk.zero).mode)
  c2 : ∀ i, i < n → w.cell? ⟨b, off + i * 5 + 2, none⟩ = some (ts.getD i Tk.zero).pv
  c3 : ∀ i, i < n → w.cell? ⟨b, off + i * 5 + 3, none⟩ = some (.int .i64 (ts.getD i Tk.zero).rating)
  c4 : ∀ i, i < n → w.cell? ⟨b, off + i * 5 + 4, none⟩ = some (.int .i64 (ts.getD i Tk.zero).since)
theorem TRow.below {w W : World} {b off n : Nat} {ts : List Tk} (h : TRow w b off n ts) (hb : Below w.heap.size w W) : TRow W b off n ts :=
  ⟨h.len, fun hn => Nat.lt_of_lt_of_le (h.lt hn) hb.size,
    fun i hi => (hb.cell (p := ⟨b, off + i * 5, none⟩) (h.lt (by omega))).trans (h.c0 i hi), fun i hi => (hb.cell (p := ⟨b, off + i * 5 + 1, none⟩) (h.lt (by omega))).trans (h.c1 i hi),
    fun i hi => (hb.cell (p := ⟨b, off + i * 5 + 2, none⟩) (h.lt (by omega))).trans (h.c2 i hi), fun i hi => (hb.cell (p := ⟨b, off + i * 5 + 3, none⟩) (h.lt (by omega))).trans (h.c3 i hi),
    fun i hi => (hb.cell (p := ⟨b, off + i * 5 + 4, none⟩) (h.lt (by omega))).trans (h.c4 i hi)⟩

set_option maxHeartbeats 800000 in
set_option maxRecDepth 100000 in
theorem indexFuncT_at (p : Tk → Bool) (g : Nat) (lb : Array Value) (eg : ∀ args w, (callFunc g args).run Try.prog w = .ok (.enter g args) w) (b off n c : Nat) (ts : List Tk) (w : World) (hm : n ≤ maxLen)
    (hr : TRow w b off n ts)
    (hp : ∀ W i, Below w.heap.size w W → i < n → ∀ t, t = ts.getD i Tk.zero → Calls Try.prog g (#[.agg #[.int .u32 t.id, .int .i64 t.mode, t.pv, .int .i64 t.rating, .int .i64 t.since]] ++ lb) W fun e w' => e = .returned (.bool (p t)) ∧ Below w.heap.size w w') :
    Calls Try.prog 102 #[.slice (some ⟨b, off, none⟩) n c, .func (.func g) #[] lb] w fun e w' => e = .returned (.int .i64 (idxBy p ts 0)) ∧ Below w.heap.size w w' := by
  unfold maxLen at hm
  have HR := Lib.hid hr
  have HP := Lib.hid hp
  clear hr hp
  go_enter Try.func102, Try.ntmps102
  go_wp2
  go_loopw [8] (fun i W => ∃ k : Nat, k ≤ n ∧ i = .int .i64 k ∧ Hid (∀ j, j < k → p (ts.getD j Tk.zero) = false) ∧ Hid (Below w.heap.size w W)) (fun i _ => n - (intOf i).toNat)
  case atStart => exact ⟨0, Nat.zero_le _, rfl, fun j hj => absurd hj (by omega), Below.refl _ _⟩
  case round =>
    obtain ⟨k, hk, rfl, HM, HB⟩ := hrel
    by_cases hlt : k < n
    · have hrw := HR.out.below HB.out
      have k0 := hrw.c0 k hlt
      have k1 := hrw.c1 k hlt
      have k2 := hrw.c2 k hlt
      have k3 := hrw.c3 k hlt
      have k4 := hrw.c4 k hlt
      have hcall := HP.out wr k HB.out hlt _ rfl
      have HL := Lib.hid hrw.len
      clear hrw HP
      cases hq : p (ts.getD k Tk.zero) with
      | true =>
        have hfin := Lib.hid (idxBy_hit Tk.zero p ts 0 k (by rw [HL.out]; exact hlt) HM.out hq)
        rw [hq] at hcall
        clear hq
        generalize ts.getD k Tk.zero = t at k0 k1 k2 k3 k4 hcall
        have HC := Lib.hid hcall
        clear hcall
        go_wp2_with (go_at_fn g; refine HC.out.mono ?_; rintro e w' ⟨rfl, hb'⟩)
        go_ret
        exact ⟨by rw [hfin.out]; simp, hb'⟩
      | false =>
        have hnext : Hid (∀ j, j < k + 1 → p (ts.getD j Tk.zero) = false) := fun j hj => by
          by_cases e : j = k
          · subst e; exact hq
          · exact HM.out j (by omega)
        rw [hq] at hcall
        clear hq HM
        generalize ts.getD k Tk.zero = t at k0 k1 k2 k3 k4 hcall
        have HC := Lib.hid hcall
        clear hcall
        go_wp2_with (go_at_fn g; refine HC.out.mono ?_; rintro e w' ⟨rfl, hb'⟩)
        go_roundw
        case rel => exact ⟨k + 1, by omega, by go_num, hnext, hb'⟩
        case measure => simp [intOf]; omega
    · have hfin := Lib.hid (idxBy_miss Tk.zero p ts 0 (fun j hj => HM.out j (by have := HR.out.len; omega)))
      have hge : ¬ ((k : Int) < (n : Int)) := by omega
      clear HP HM
      go_wp2
      go_ret
      exact ⟨by rw [hfin.out]; rfl, HB.out⟩
end Go.Proofs.Ytlkpmlcmgggifaa
namespace Go.Proofs.Ytlkpmlcmgggifaa
open Go.RowKit

/-- A queue: its block, the row of its tickets, the modes' sizes; each ticket's players lie in a row of their own. -/
structure QRep (w : World) (base g : Nat) (va vs : Value) (ts : List Tk) (sizes : List Int) : Prop where
  blk : Blk w g #[va, vs] 106
  low : base ≤ g
  all : w.ownsRow base 39 5 va ts.length (ts.flatMap Tk.cs)
  szs : OwnN w base 3 .i64 vs sizes
  pls : ∀ t ∈ ts, OwnN w base 33 .u32 t.pv t.pl
  few : ∀ t ∈ ts, t.pl.length ≤ 8

theorem QRep.kept {w w' : World} {S : Nat → Prop} {base g : Nat} {va vs : Value} {ts : List Tk} {sizes : List Int} (h : QRep w base g va vs ts sizes) (hk : Kept w w' S)
    (hn : ∀ k cur t, base ≤ k → Blk w k cur t → t = 106 ∨ t = 39 ∨ t = 3 ∨ t = 33 → ¬ S k) : QRep w' base g va vs ts sizes :=
  ⟨h.blk.kept hk (hn _ _ _ h.low h.blk (.inl rfl)), h.low, own_kept h.all hk (fun k e => by obtain ⟨cur, hb, hg⟩ := own_blk h.all e; exact hn _ _ _ hg hb (by simp)),
    own_kept h.szs hk (fun k e => by obtain ⟨cur, hb, hg⟩ := own_blk h.szs e; exact hn _ _ _ hg hb (by simp)),
    fun t ht => own_kept (h.pls t ht) hk (fun k e => by obtain ⟨cur, hb, hg⟩ := own_blk (h.pls t ht) e; exact hn _ _ _ hg hb (by simp)), h.few⟩
theorem QRep.below {w w' : World} {base g : Nat} {va vs : Value} {ts : List Tk} {sizes : List Int} (h : QRep w base g va vs ts sizes) (hb : Below w.heap.size w w') : QRep w' base g va vs ts sizes :=
  h.kept (kept_of_below hb (fun _ => False)) (fun _ _ _ _ _ _ c => c)
theorem QRep.lt {w : World} {base g : Nat} {va vs : Value} {ts : List Tk} {sizes : List Int} (h : QRep w base g va vs ts sizes) : g < w.heap.size := h.blk.lt

theorem flat_getElem (ts : List Tk) : ∀ (i : Nat), i < ts.length → ∀ j, j < 5 → (ts.flatMap Tk.cs)[i * 5 + j]? = (ts.getD i Tk.zero).cs[j]? := by
  induction ts with
  | nil => intro i hi; simp at hi
  | cons t r ih =>
    intro i hi j hj
    have hl : t.cs.length = 5 := rfl
    rw [List.flatMap_cons]
    cases i with
    | zero => rw [List.getElem?_append_left (by omega)]; simp
    | succ i =>
      rw [List.getElem?_append_right (by omega), hl, show (i + 1) * 5 + j - 5 = i * 5 + j by omega, ih i (by simpa using hi) j hj]
      simp
/-- An owned row of tickets, cell by cell: nil, or a block. -/
theorem own_trow {w : World} {base e : Nat} {va : Value} {ts : List Tk} (h : w.ownsRow base e 5 va ts.length (ts.flatMap Tk.cs)) :
    (va = .slice none 0 0 ∧ ts = []) ∨ ∃ b c, va = .slice (some ⟨b, 0, none⟩) ts.length c ∧ ts.length ≤ maxLen ∧ b < w.heap.size ∧ TRow w b 0 ts.length ts := by
  rcases h.2 with ⟨rfl, hn⟩ | ⟨g, cap, cur, rfl, hb, hgg, hnc, hcm, hcs, ht⟩
  · exact .inl ⟨rfl, List.eq_nil_of_length_eq_zero hn⟩
  · have h1 : w.ownsRow base e 5 (.slice (some ⟨g, 0, none⟩) ts.length cap) ts.length (ts.flatMap Tk.cs) := h
    have hc : ∀ i, i < ts.length → ∀ j, j < 5 → w.cell? ⟨g, 0 + i * 5 + j, none⟩ = (ts.getD i Tk.zero).cs[j]? := fun i hi j hj => by
      rw [Nat.zero_add, h1.cellAt _ (by omega), flat_getElem ts i hi j hj]
    exact .inr ⟨g, cap, rfl, Nat.le_trans hnc hcm, (Array.getElem?_eq_some_iff.1 hgg).1, ⟨rfl, fun _ => (Array.getElem?_eq_some_iff.1 hgg).1, fun i hi => hc i hi 0 (by omega), fun i hi => hc i hi 1 (by omega), fun i hi => hc i hi 2 (by omega), fun i hi => hc i hi 3 (by omega), fun i hi => hc i hi 4 (by omega)⟩⟩

/-- What is asked of a question about tickets. -/
def Asks (w : World) (g : Nat) (lb : Array Value) (ts : List Tk) (p : Tk → Bool) : Prop :=
  ∀ W, Below w.heap.size w W → ∀ t ∈ ts, Calls Try.prog g (#[.agg #[.int .u32 t.id, .int .i64 t.mode, t.pv, .int .i64 t.rating, .int .i64 t.since]] ++ lb) W fun e w' => e = .returned (.bool (p t)) ∧ Below w.heap.size w w'
theorem getD_mem {α : Type} (d : α) (ts : List α) (i : Nat) (h : i < ts.length) : ts.getD i d ∈ ts := by simp [List.getD, h]
set_option maxHeartbeats 400000 in
theorem indexFuncT (p : Tk → Bool) (g : Nat) (lb : Array Value) (eg : ∀ args w, (callFunc g args).run Try.prog w = .ok (.enter g args) w) (va : Value) (base e : Nat) (ts : List Tk) (w : World)
    (hr : w.ownsRow base e 5 va ts.length (ts.flatMap Tk.cs)) (hp : Asks w g lb ts p) :
    Calls Try.prog 102 #[va, .func (.func g) #[] lb] w fun e w' => e = .returned (.int .i64 (idxBy p ts 0)) ∧ Below w.heap.size w w' := by
  rcases own_trow hr with ⟨rfl, rfl⟩ | ⟨b, c, rfl, hm, hlt, ht⟩
  · clear hp hr
    go_enter Try.func102, Try.ntmps102
    go_wp2_with fail
    refine wp_loop_rounds 1 ?_; rw [rounds_succ]
    go_wp2
    go_ret
    exact ⟨rfl, Below.refl _ _⟩
  · exact indexFuncT_at p g lb eg b 0 _ c ts w hm ht (fun W i hW hi t htt => hp W hW t (by subst htt; exact getD_mem _ _ _ hi))

set_option maxHeartbeats 400000 in
theorem at_some (p : Tk → Bool) (k : Nat) (lb : Array Value) (ek : ∀ args w, (callFunc k args).run Try.prog w = .ok (.enter k args) w) (base g : Nat) (va vs : Value) (ts : List Tk) (sizes : List Int) (w : World)
    (hq : QRep w base g va vs ts sizes) (hp : Asks w k lb ts p) :
    Calls Try.prog 60 #[.pointer (some ⟨g, 0, none⟩), .func (.func k) #[] lb] w fun e w' => e = .returned (.int .i64 (idxBy p ts 0)) ∧ Below w.heap.size w w' := by
  have h0 := hq.blk.cell 0
  simp at h0
  have HA := Lib.hid hq.all
  have HP := Lib.hid hp
  clear hp hq
  go_enter Try.func60, Try.ntmps60
  go_wp2_with (go_at_call 102; refine (indexFuncT p k lb ek va base _ ts _ HA.out HP.out).mono ?_; rintro e w' ⟨rfl, hb'⟩)
  go_ret
  exact ⟨rfl, hb'⟩
theorem at_nil (F : Value) (w : World) : Calls Try.prog 60 #[.pointer none, F] w fun e w' => e = .returned (.int .i64 (-1)) ∧ w = w' := by
  go_enter Try.func60, Try.ntmps60
  go_wp2
  go_ret
  exact ⟨rfl, rfl⟩

set_option maxHeartbeats 400000 in
theorem of_asks (w : World) (base : Nat) (ts : List Tk) (B : Nat) (x : Int) (hB : B < w.heap.size) (hx : w.cell? ⟨B, 0, none⟩ = some (.int .u32 x)) (hpl : ∀ t ∈ ts, OwnN w base 33 .u32 t.pv t.pl) :
    Asks w 61 #[.pointer (some ⟨B, 0, none⟩)] ts (fun t => decide (x ∈ t.pl)) := by
  intro W hW t ht
  have hx' := (hW.cell (p := ⟨B, 0, none⟩) hB).trans hx
  have HS : Hid (Shows W .u32 t.pv t.pl) := (hpl t ht).shows.below hW
  have h1 := shows_oneCell (hpl t ht).shows
  have HW := Lib.hid hW
  have hBW : B < W.heap.size := Nat.lt_of_lt_of_le hB hW.size
  have HZ := Lib.hid hW.size
  clear hpl ht hx hW hB
  show Calls _ _ #[_, _] _ _
  go_enter Try.func61, Try.ntmps61
  go_wp2_with (go_at_call 62; refine (contains32 _ _ _ _ (HS.out.below ((Below.refl _ _).alloc (Nat.le_refl _) _))).mono ?_; rintro e w' ⟨rfl, rfl⟩)
  go_ret
  exact ⟨rfl, HW.out.alloc HZ.out _⟩
end Go.Proofs.Ytlkpmlcmgggifaa
namespace Go.Proofs.Ytlkpmlcmgggifaa
open Go.RowKit
theorem info33 : (Try.prog.info? 33).map (fun i => (i.zero, i.size, i.bytes)) = some (some (.int .u32 0), 1, 4) := by kernel_rfl
theorem size33 : (Try.prog.info? 33).map (·.size) = some 1 := by kernel_rfl
theorem Shows.form {w : World} {k : IntKind} {v : Value} {xs : List Int} (h : Shows w k v xs) : ∃ A c, v = .slice A xs.length c ∧ (0 < xs.length → ∃ ad, A = some ad ∧ ad.block < w.heap.size ∧ ∀ j u, (xs.map (Value.int k))[j]? = some u → w.cell? (ad.add j) = some u) := by
  rcases h with ⟨rfl, rfl⟩ | ⟨b, off, c, rfl, hlc, hm, hlt, hc⟩
  · exact ⟨none, 0, rfl, fun h => by simp at h⟩
  · refine ⟨_, c, rfl, fun _ => ⟨_, rfl, hlt, fun j u hu => ?_⟩⟩
    have hj : j < xs.length := by have := (List.getElem?_eq_some_iff.1 hu).1; simpa using this
    have e : (⟨b, off, none⟩ : Addr).add j = ⟨b, off + j, none⟩ := by unfold Addr.add; split <;> simp_all
    rw [e, hc j hj]
    simp [hj] at hu
    simp [List.getD, hj, hu]
theorem info_u32_zero : Value.cells (.int .u32 0) = #[.int .u32 0] := rfl
/-- The copy behind 'own'. -/
def Copied (w w' : World) (pl : List Int) (e : Ending) (id mode rating since : Int) : Prop :=
  ∃ pv', e = .returned (.agg #[.int .u32 id, .int .i64 mode, pv', .int .i64 rating, .int .i64 since]) ∧ OwnN w' w.heap.size 33 .u32 pv' pl ∧ Below w.heap.size w w'
theorem two_blk (w : World) (a b : Array Value) (t u : TypeId) : Blk ((w.alloc (.cells a t)).alloc (.cells b u)) w.heap.size a t ∧ Blk ((w.alloc (.cells a t)).alloc (.cells b u)) (w.heap.size + 1) b u :=
  ⟨heap_alloc2_old w (.cells a t) (.cells b u), heap_alloc2_new w (.cells a t) (.cells b u)⟩
theorem below_two (w : World) (o o' : Obj) : Below w.heap.size w ((w.alloc o).alloc o') := ((Below.refl _ _).alloc (Nat.le_refl _) _).alloc (by simp) _
theorem below_of_none {w w' : World} (h : w.grownBy w' none) : Below w.heap.size w w' := (Below.refl _ _).grown h (Nat.le_refl _) (fun k e => by cases e)
theorem blk_rule {w : World} {g : Nat} {cs : Array Value} {t : TypeId} (h : Blk w g cs t) : (∀ j, w.cell? ⟨g, j, none⟩ = cs[j]?) ∧ (∀ j, w.frozen? ⟨g, j, none⟩ = false) := ⟨h.cell, h.frozen⟩
theorem own_full {w : World} {base : Nat} {e : TypeId} {n g : Nat} {xs : List Value} (hb : base ≤ g) (hg : w.heap[g]? = some (.cells xs.toArray e (0, 0))) (hx : xs.length = n) (hm : n ≤ maxLen) : w.ownsRow base e 1 (.slice (some ⟨g, 0, none⟩) n n) n xs :=
  ⟨by simpa using hx, .inr ⟨g, n, xs.toArray, rfl, hb, hg, Nat.le_refl _, hm, by simp [hx], by rw [Nat.mul_one, ← hx]; simp⟩⟩
theorem own_full_inv {w : World} {base : Nat} {e : TypeId} {n g : Nat} {xs : List Value} (h : w.ownsRow base e 1 (.slice (some ⟨g, 0, none⟩) n n) n xs) : w.heap[g]? = some (.cells xs.toArray e (0, 0)) := by
  rcases h.2 with ⟨h2, _⟩ | ⟨g', cap, cur, hv, hb, hgg, hnc, hcm, hcs, ht⟩
  · cases h2
  · simp only [Value.slice.injEq, Option.some.injEq, Addr.mk.injEq] at hv
    obtain ⟨⟨rfl, _⟩, _, rfl⟩ := hv
    rw [hgg, ← ht, List.take_of_length_le (by simp; omega)]
    try simp
theorem Addr.add_block (a : Addr) (j : Nat) : (a.add j).block = a.block := by unfold Addr.add; split <;> rfl
theorem made_u32 (n : Nat) : (madeCells (Value.int .u32 0).cells (n * 1)).toList = List.replicate n (.int .u32 0) := by rw [Nat.mul_one]; exact toList_madeCells_one _ _
theorem splice_all {α : Type} (xs ys : List α) (h : ys.length = xs.length) : splice xs 0 ys = ys := by simp [splice, h]
set_option maxHeartbeats 1600000 in
set_option maxRecDepth 100000 in
theorem own_any (id mode rating since : Int) (pv : Value) (pl : List Int) (w : World) (hs : Shows w .u32 pv pl) (hf : pl.length ≤ 8) :
    Calls Try.prog 56 #[.agg #[.int .u32 id, .int .i64 mode, pv, .int .i64 rating, .int .i64 since]] w fun e w' => Copied w w' pl e id mode rating since := by
  obtain ⟨i0, hi, hz0, hz1, hz2⟩ := info_parts info33
  obtain ⟨A, c, rfl, hA⟩ := hs.form
  clear hs
  have HA := Lib.hid hA
  clear hA
  obtain ⟨n, hn⟩ : ∃ n, n = pl.length := ⟨_, rfl⟩
  rw [← hn] at hf ⊢
  have HN := Lib.hid hn
  clear hn
  have HI := Lib.hid hi
  have HZ0 := Lib.hid hz0
  have HZ1 := Lib.hid hz1
  have HZ2 := Lib.hid hz2
  clear hi hz0 hz1 hz2
  go_enter Try.func56, Try.ntmps56
  go_wp2_with (first
    | (at_make; refine wpList_make_full _ rfl (.tmp 6) (.tmp 6) 34 rfl w.heap.size 33 i0 _ 1 Try.underlying34 HI.out HZ0.out HZ1.out .i64 .i64 n n n rfl rfl rfl rfl (by rw [HZ2.out]; omega) (by unfold maxLen; omega) (by simp; omega) ?_; intro w1 hown hg
       obtain ⟨bA, bR⟩ := two_blk w #[.int .u32 id, .int .i64 mode, .slice A n c, .int .i64 rating, .int .i64 since] #[.int .u32 0, .int .i64 0, .slice none 0 0, .int .i64 0, .int .i64 0] 39 39
       have B1 := Lib.hid ((below_two w _ _).trans ((below_of_none hg).mono (by simp; omega)))
       have hA1 := bA.below (below_of_none hg)
       have hR1 := bR.below (below_of_none hg)
       have OWN := Lib.hid hown
       obtain ⟨cA, fA⟩ := blk_rule hA1
       have HA1 := Lib.hid hA1
       have HR1 := Lib.hid hR1
       clear hown hg bA bR hA1 hR1)
    | (with_reducible refine wpList_copy_splice rfl (.tmp 8) (.tmp 10) 34 34 rfl 33 Try.underlying34 size33 _ _ n n n c rfl rfl (w.heap.size + 2) 0 (List.replicate n (.int .u32 0)) 33 ?hgrow (pl.map (Value.int .u32)) ?hlen ?hpos ?hfit ?hone (w.heap.size + 2) w1 (Below.refl _ _) (Nat.le_refl _) ?hK))
  case hgrow =>
    have h := OWN.out
    simp only [World.size_alloc] at h
    rw [made_u32] at h
    exact own_full_inv h
  case hlen => simp [← HN.out]
  case hpos =>
    intro h
    obtain ⟨ad, h1, h2, h3⟩ := HA.out (by simpa using h)
    refine ⟨ad, h1, fun j a hj => ?_⟩
    rw [B1.out.cell (by rw [Addr.add_block]; exact h2)]
    exact h3 j _ (by simpa using hj)
  case hfit => simp [← HN.out]
  case hone =>
    intro v hv
    obtain ⟨x, _, rfl⟩ := List.mem_map.1 hv
    rfl
  case hK =>
    intro w2 hg2 hb2
    have hA2 : Blk w2 w.heap.size _ _ := (hb2.block w.heap.size (by omega)).trans HA1.out
    have hR2 : Blk w2 (w.heap.size + 1) _ _ := (hb2.block (w.heap.size + 1) (by omega)).trans HR1.out
    obtain ⟨cA2, fA2⟩ := blk_rule hA2
    obtain ⟨cR2, fR2⟩ := blk_rule hR2
    have B2 := Lib.hid (B1.out.trans (hb2.mono (by omega)))
    have HZ := Lib.hid (show w.heap.size + 2 < w2.heap.size from (Array.getElem?_eq_some_iff.1 hg2.out).1)
    clear cA fA HA1 HR1 OWN hA2 hR2 B1 hb2
    go_wp2
    refine bodyPost_ret (v := .agg #[.int .u32 id, .int .i64 mode, .slice (some ⟨w.heap.size + 2, 0, none⟩) n n, .int .i64 rating, .int .i64 since]) ?_ rfl ?_
    · simp [results, Try.results56, go_sem, cR2]
    · have hz := HZ.out
      have hb : Below w.heap.size w ((((((w2.setCell ⟨w.heap.size, 2, none⟩ (.slice (some ⟨w.heap.size + 1 + 1, 0, none⟩) n n)).setCell ⟨w.heap.size + 1, 0, none⟩ (.int .u32 id)).setCell ⟨w.heap.size + 1, 1, none⟩ (.int .i64 mode)).setCell ⟨w.heap.size + 1, 2, none⟩
          (.slice (some ⟨w.heap.size + 1 + 1, 0, none⟩) n n)).setCell ⟨w.heap.size + 1, 3, none⟩ (.int .i64 rating)).setCell ⟨w.heap.size + 1, 4, none⟩ (.int .i64 since)) :=
        (((((B2.out.setCell (by simp) _).setCell (by simp) _).setCell (by simp) _).setCell (by simp) _).setCell (by simp) _).setCell (by simp) _
      refine ⟨_, rfl, ?_, hb⟩
      have h2 := hg2.out
      rw [splice_all _ _ (by simp [← HN.out])] at h2
      rw [HN.out]
      refine own_full (by omega) ?_ (by simp) (by rw [← HN.out]; unfold maxLen; omega)
      rw [Below.heap_setCell _ _ _ _ (by simp), Below.heap_setCell _ _ _ _ (by simp), Below.heap_setCell _ _ _ _ (by simp), Below.heap_setCell _ _ _ _ (by simp), Below.heap_setCell _ _ _ _ (by simp), Below.heap_setCell _ _ _ _ (by simp)]
      exact h2
end Go.Proofs.Ytlkpmlcmgggifaa
namespace Go.Proofs.Ytlkpmlcmgggifaa
open Go.RowKit
theorem id_asks_get (w : World) (base : Nat) (ts : List Tk) (B : Nat) (x : Int) (hB : B < w.heap.size) (hx : w.cell? ⟨B, 0, none⟩ = some (.int .u32 x)) (hpl : ∀ t ∈ ts, OwnN w base 33 .u32 t.pv t.pl) :
    Asks w 68 #[.pointer (some ⟨B, 0, none⟩)] ts (fun t => t.id == x) := by
  intro W hW t ht
  have hx' := (hW.cell (p := ⟨B, 0, none⟩) hB).trans hx
  have h1 := shows_oneCell (hpl t ht).shows
  have HW := Lib.hid hW
  have hBW : B < W.heap.size := Nat.lt_of_lt_of_le hB hW.size
  have HZ := Lib.hid hW.size
  clear hpl ht hx hW hB
  show Calls _ _ #[_, _] _ _
  go_enter Try.func68, Try.ntmps68
  go_wp2
  go_ret
  exact ⟨rfl, HW.out.alloc HZ.out _⟩
theorem id_asks_drop (w : World) (base : Nat) (ts : List Tk) (B : Nat) (x : Int) (hB : B < w.heap.size) (hx : w.cell? ⟨B, 0, none⟩ = some (.int .u32 x)) (hpl : ∀ t ∈ ts, OwnN w base 33 .u32 t.pv t.pl) :
    Asks w 63 #[.pointer (some ⟨B, 0, none⟩)] ts (fun t => t.id == x) := by
  intro W hW t ht
  have hx' := (hW.cell (p := ⟨B, 0, none⟩) hB).trans hx
  have h1 := shows_oneCell (hpl t ht).shows
  have HW := Lib.hid hW
  have hBW : B < W.heap.size := Nat.lt_of_lt_of_le hB hW.size
  have HZ := Lib.hid hW.size
  clear hpl ht hx hW hB
  show Calls _ _ #[_, _] _ _
  go_enter Try.func63, Try.ntmps63
  go_wp2
  go_ret
  exact ⟨rfl, HW.out.alloc HZ.out _⟩
theorem idxBy_find {α : Type} (d : α) (p : α → Bool) (xs : List α) : (idxBy p xs 0 = -1 ∧ xs.find? p = none) ∨ ∃ k : Nat, k < xs.length ∧ idxBy p xs 0 = k ∧ xs.find? p = some (xs.getD k d) := by
  rcases idxBy_cases d p xs with ⟨h1, h2⟩ | ⟨k, h1, h2, h3, h4⟩
  · exact .inl ⟨h1, by simpa using h2⟩
  · refine .inr ⟨k, h1, h2, ?_⟩
    clear h2
    induction xs generalizing k with
    | nil => simp at h1
    | cons y r ih =>
      cases k with
      | zero => simp at h3; simp [h3]
      | succ k =>
        have h0 : p y = false := by simpa using h4 0 (by omega)
        rw [List.find?_cons, h0]
        simpa using ih k (by simpa using h1) (by simpa using h3) (fun j hj => by simpa using h4 (j + 1) (by omega))
/-- The ticket's id of which something is so; 0. -/
def idOf (o : Option Tk) : Int := (o.map Tk.id).getD 0
set_option maxHeartbeats 800000 in
set_option maxRecDepth 100000 in
theorem of_some (base g : Nat) (va vs : Value) (ts : List Tk) (sizes : List Int) (x : Int) (w : World) (hq : QRep w base g va vs ts sizes) :
    Calls Try.prog 14 #[.pointer (some ⟨g, 0, none⟩), .int .u32 x] w fun e w' => e = .returned (.int .u32 (idOf (ts.find? (fun t => decide (x ∈ t.pl))))) ∧ Below w.heap.size w w' := by
  have hlt := hq.lt
  have HQ : Hid (QRep (w.alloc (.cells #[.int .u32 x] 33)) base g va vs ts sizes) := hq.below ((Below.refl _ _).alloc (Nat.le_refl _) _)
  have ea := enters_of Try.func61 (by kernel_rfl) rfl
  have hmf : ∀ (fn : Fn) (first cap : Array Value) (w : World), (Instr.makeFunc fn first cap).run Try.prog w = .ok (.func fn first cap) w := fun _ _ _ _ => rfl
  rcases idxBy_find Tk.zero (fun t => decide (x ∈ t.pl)) ts with ⟨h1, h2⟩ | ⟨k, h0, h1, h2⟩
  · rw [h2]
    have H1 := Lib.hid h1
    clear h1 h2 hq
    go_enter Try.func14, Try.ntmps14
    go_wp2_with (go_at_call 60; refine (at_some (fun t => decide (x ∈ t.pl)) 61 _ ea base g va vs ts sizes _ HQ.out (of_asks _ base ts w.heap.size x (by simp) (by simp) HQ.out.pls)).mono ?_; rintro e w' ⟨rfl, hb'⟩; rw [H1.out])
    go_ret
    exact ⟨rfl, (((Below.refl _ _).alloc (Nat.le_refl _) _).trans (hb'.mono (by simp)))⟩
  · rw [h2]
    rcases own_trow hq.all with ⟨_, e0⟩ | ⟨b, c, rfl, hm, hblt, ht⟩
    · rw [e0] at h0; simp at h0
    have HT : Hid (TRow (w.alloc (.cells #[.int .u32 x] 33)) b 0 ts.length ts) := ht.below ((Below.refl _ _).alloc (Nat.le_refl _) _)
    have H1 := Lib.hid h1
    have hk1 : (k : Int) < (ts.length : Int) := by omega
    have hm' := hm
    unfold maxLen at hm'
    obtain ⟨n, hn⟩ : ∃ n, n = ts.length := ⟨_, rfl⟩
    rw [← hn] at hk1 hm' HT HQ hq
    have HN := Lib.hid hn
    obtain ⟨t, htd⟩ : ∃ t, t = ts.getD k Tk.zero := ⟨_, rfl⟩
    rw [← htd, show idOf (some t) = t.id from rfl]
    have HTD := Lib.hid htd
    clear h1 h2 hq ht hm hn htd
    go_enter Try.func14, Try.ntmps14
    go_wp2_with (go_at_call 60; refine (at_some (fun t => decide (x ∈ t.pl)) 61 _ ea base g _ vs ts sizes _ HQ.out (of_asks _ base ts w.heap.size x (by simp) (by simp) HQ.out.pls)).mono ?_; rintro e w' ⟨rfl, hb'⟩; rw [H1.out]; have c0 := (HQ.out.below hb').blk.cell 0; simp only [List.getElem?_toArray, List.getElem?_cons_zero] at c0; have t0 := (HT.out.below hb').c0 k (by omega); simp only [Nat.zero_add] at t0; rw [← HTD.out] at t0; have HB := Lib.hid hb'; clear hb')
    go_ret
    exact ⟨rfl, (((Below.refl _ _).alloc (Nat.le_refl _) _).trans (HB.out.mono (by simp)))⟩

theorem len_some (base g : Nat) (va vs : Value) (ts : List Tk) (sizes : List Int) (w : World) (hq : QRep w base g va vs ts sizes) :
    Calls Try.prog 15 #[.pointer (some ⟨g, 0, none⟩)] w fun e w' => e = .returned (.int .i64 ts.length) ∧ w = w' := by
  have h0 := hq.blk.cell 0
  simp at h0
  rcases own_trow hq.all with ⟨rfl, rfl⟩ | ⟨b, c, rfl, hm, hblt, ht⟩
  · clear hq
    go_enter Try.func15, Try.ntmps15
    go_wp2
    go_ret
    exact ⟨rfl, rfl⟩
  · clear hq ht
    generalize ts.length = n at *
    go_enter Try.func15, Try.ntmps15
    go_wp2
    go_ret
    exact ⟨rfl, rfl⟩
theorem len_nil (w : World) : Calls Try.prog 15 #[.pointer none] w fun e w' => e = .returned (.int .i64 0) ∧ w = w' := by
  go_enter Try.func15, Try.ntmps15
  go_wp2
  go_ret
  exact ⟨rfl, rfl⟩
theorem of_nil (x : Int) (w : World) : Calls Try.prog 14 #[.pointer none, .int .u32 x] w fun e w' => e = .returned (.int .u32 0) ∧ Below w.heap.size w w' := by
  have hmf : ∀ (fn : Fn) (first cap : Array Value) (w : World), (Instr.makeFunc fn first cap).run Try.prog w = .ok (.func fn first cap) w := fun _ _ _ _ => rfl
  go_enter Try.func14, Try.ntmps14
  go_wp2_with (go_at_call 60; refine (at_nil _ _).mono ?_; rintro e w' ⟨rfl, rfl⟩)
  go_ret
  exact ⟨rfl, (Below.refl _ _).alloc (Nat.le_refl _) _⟩
/-- Get's answer: nothing, or an own copy. -/
def GotCopy (w w' : World) (o : Option Tk) (e : Ending) : Prop :=
  match o with
  | none => e = .returned (.tuple #[.agg #[.int .u32 0, .int .i64 0, .slice none 0 0, .int .i64 0, .int .i64 0], .bool false]) ∧ Below w.heap.size w w'
  | some t => ∃ pv', e = .returned (.tuple #[.agg #[.int .u32 t.id, .int .i64 t.mode, pv', .int .i64 t.rating, .int .i64 t.since], .bool true]) ∧ OwnN w' w.heap.size 33 .u32 pv' t.pl ∧ Below w.heap.size w w'
set_option maxHeartbeats 1600000 in
set_option maxRecDepth 100000 in
theorem get_some (base g : Nat) (va vs : Value) (ts : List Tk) (sizes : List Int) (x : Int) (w : World) (hq : QRep w base g va vs ts sizes) :
    Calls Try.prog 23 #[.pointer (some ⟨g, 0, none⟩), .int .u32 x] w fun e w' => GotCopy w w' (ts.find? (fun t => t.id == x)) e := by
  have hlt := hq.lt
  obtain ⟨W0, hW0⟩ : ∃ W0, W0 = (w.alloc (.cells #[.int .u32 x] 33)).alloc (.cells #[.int .u32 0, .int .i64 0, .slice none 0 0, .int .i64 0, .int .i64 0] 39) := ⟨_, rfl⟩
  have hB0 : Below w.heap.size w W0 := by rw [hW0]; exact below_two w _ _
  obtain ⟨bX, bR⟩ := two_blk w #[.int .u32 x] #[.int .u32 0, .int .i64 0, .slice none 0 0, .int .i64 0, .int .i64 0] 33 39
  rw [← hW0] at bX bR
  have HQ : Hid (QRep W0 base g va vs ts sizes) := hq.below hB0
  have ea := enters_of Try.func68 (by kernel_rfl) rfl
  have hmf : ∀ (fn : Fn) (first cap : Array Value) (w : World), (Instr.makeFunc fn first cap).run Try.prog w = .ok (.func fn first cap) w := fun _ _ _ _ => rfl
  have HA : Hid (Asks W0 68 #[.pointer (some ⟨w.heap.size, 0, none⟩)] ts (fun t => t.id == x)) := id_asks_get _ base ts w.heap.size x bX.lt (bX.cell 0) HQ.out.pls
  have HB0 := Lib.hid hB0
  have HR := Lib.hid bR
  have HW0 := Lib.hid hW0
  clear bX bR hB0 hW0
  rcases idxBy_find Tk.zero (fun t => t.id == x) ts with ⟨h1, h2⟩ | ⟨k, h0, h1, h2⟩
  · rw [h2]
    have H1 := Lib.hid h1
    clear h1 h2 hq
    go_enter Try.func23, Try.ntmps23
    go_wp2_with (go_at_call 60; rw [← HW0.out]; refine (at_some (fun t => t.id == x) 68 _ ea base g va vs ts sizes _ HQ.out HA.out).mono ?_; rintro e w' ⟨rfl, hb'⟩; rw [H1.out]; obtain ⟨cR, fR⟩ := blk_rule (HR.out.below hb'); have HB := Lib.hid (HB0.out.trans (hb'.mono HB0.out.size)); clear hb')
    refine bodyPost_ret (v := .tuple #[.agg #[.int .u32 0, .int .i64 0, .slice none 0 0, .int .i64 0, .int .i64 0], .bool false]) ?_ rfl ?_
    · simp [results, Try.results23, go_sem, cR]
    · exact ⟨rfl, ((((HB.out.setCell (by simp) _).setCell (by simp) _).setCell (by simp) _).setCell (by simp) _).setCell (by simp) _⟩
  · rw [h2]
    rcases own_trow hq.all with ⟨_, e0⟩ | ⟨b, c, rfl, hm, hblt, ht⟩
    · rw [e0] at h0; simp at h0
    have HT : Hid (TRow W0 b 0 ts.length ts) := ht.below HB0.out
    have H1 := Lib.hid h1
    have hk1 : (k : Int) < (ts.length : Int) := by omega
    have hm' := hm
    unfold maxLen at hm'
    obtain ⟨n, hn⟩ : ∃ n, n = ts.length := ⟨_, rfl⟩
    rw [← hn] at hk1 hm' HT HQ
    have HN := Lib.hid hn
    obtain ⟨t, htd⟩ : ∃ t, t = ts.getD k Tk.zero := ⟨_, rfl⟩
    rw [← htd]
    have htm : t ∈ ts := by rw [htd]; exact getD_mem _ _ _ h0
    have HTD := Lib.hid htd
    have HS : Hid (Shows W0 .u32 t.pv t.pl) := (HQ.out.pls t htm).shows
    have HF := Lib.hid (hq.few t htm)
    have h1c := shows_oneCell HS.out
    clear h1 h2 hq ht hm hn htd htm
    go_enter Try.func23, Try.ntmps23
    go_wp2_with (first
      | (go_at_call 60; rw [← HW0.out]; refine (at_some (fun t => t.id == x) 68 _ ea base g _ vs ts sizes _ HQ.out HA.out).mono ?_; rintro e w' ⟨rfl, hb'⟩; rw [H1.out]
         have c0 := (HQ.out.below hb').blk.cell 0
         simp only [List.getElem?_toArray, List.getElem?_cons_zero] at c0
         have tt := HT.out.below hb'
         have t0 := tt.c0 k (by omega)
         have t1 := tt.c1 k (by omega)
         have t2 := tt.c2 k (by omega)
         have t3 := tt.c3 k (by omega)
         have t4 := tt.c4 k (by omega)
         simp only [Nat.zero_add] at t0 t1 t2 t3 t4
         rw [← HTD.out] at t0 t1 t2 t3 t4
         have HR1 := Lib.hid (HR.out.below hb')
         have HB := Lib.hid (HB0.out.trans (hb'.mono HB0.out.size))
         have HS1 := Lib.hid (HS.out.below hb')
         clear hb' tt)
      | (go_at_call 56; refine (own_any _ _ _ _ _ t.pl _ HS1.out HF.out).mono ?_; rintro e w'' ⟨pv', rfl, hown, hb'⟩
         obtain ⟨cR, fR⟩ := blk_rule (HR1.out.below hb')
         have HB2 := Lib.hid (HB.out.trans (hb'.mono HB.out.size))
         have HO := Lib.hid (own_mono hown HB.out.size)
         have HR2 := Lib.hid (HR1.out.below hb')
         obtain ⟨A', c', rfl, _⟩ := hown.shows.form
         clear hown hb'))
    refine bodyPost_ret (v := .tuple #[.agg #[.int .u32 t.id, .int .i64 t.mode, .slice A' t.pl.length c', .int .i64 t.rating, .int .i64 t.since], .bool true]) ?_ rfl ?_
    · simp [results, Try.results23, go_sem, cR]
    · have HZ := HB.out.size
      have hne := own_ne HO.out HR2.out (by decide)
      refine ⟨_, rfl, own_setCell (own_setCell (own_setCell (own_setCell (own_setCell HO.out hne _) hne _) hne _) hne _) hne _, ((((HB2.out.setCell (by simp) _).setCell (by simp) _).setCell (by simp) _).setCell (by simp) _).setCell (by simp) _⟩
end Go.Proofs.Ytlkpmlcmgggifaa
namespace Go.Proofs.Ytlkpmlcmgggifaa
open Go.RowKit
def rightB (x : Int) : Bool := decide (1 ≤ x ∧ x ≤ 2147483647)
theorem right_any (x : Int) (w : World) : Calls Try.prog 49 #[.int .u32 x] w fun e w' => e = .returned (.bool (rightB x)) ∧ w = w' := by
  by_cases h1 : 1 ≤ x
  · by_cases h2 : x ≤ 2147483647
    · rw [show rightB x = true by simp [rightB, h1, h2]]
      go_enter Try.func49, Try.ntmps49
      go_wp2
      go_ret
      exact ⟨by simp [h1, h2], rfl⟩
    · rw [show rightB x = false by simp [rightB, h1, h2]]
      go_enter Try.func49, Try.ntmps49
      go_wp2
      go_ret
      exact ⟨by simp [h1, h2], rfl⟩
  · rw [show rightB x = false by simp [rightB, h1]]
    go_enter Try.func49, Try.ntmps49
    go_wp2
    go_ret
    exact ⟨by simp [h1], rfl⟩
theorem notRight_any (x : Int) (w : World) : Calls Try.prog 51 #[.int .u32 x] w fun e w' => e = .returned (.bool (!rightB x)) ∧ w = w' := by
  go_enter Try.func51, Try.ntmps51
  have hnot : ∀ (x : Bool) (w : World), (Op.unary .not (.bool x)).run Try.prog w = .ok (.bool (!x)) w := fun _ _ => rfl
  generalize hr : rightB x = r
  have HR := Lib.hid hr
  clear hr
  go_wp2_with (go_at_call 49; refine (right_any _ _).mono ?_; rintro e w' ⟨rfl, rfl⟩; rw [HR.out])
  go_ret
  exact ⟨rfl, rfl⟩
set_option maxHeartbeats 800000 in
theorem indexFunc32 (p : Int → Bool) (g : Nat) (lb : Array Value) (eg : ∀ args w, (callFunc g args).run Try.prog w = .ok (.enter g args) w) (v : Value) (xs : List Int) (w : World) (hs : Shows w .u32 v xs)
    (hp : ∀ W x, Below w.heap.size w W → x ∈ xs → Calls Try.prog g (#[.int .u32 x] ++ lb) W fun e w' => e = .returned (.bool (p x)) ∧ Below w.heap.size w w') :
    Calls Try.prog 96 #[v, .func (.func g) #[] lb] w fun e w' => e = .returned (.int .i64 (idxBy p xs 0)) ∧ Below w.heap.size w w' := by
  rcases hs with ⟨rfl, rfl⟩ | ⟨b, off, c, rfl, hlc, hcm, hlt, hc⟩
  · clear hp
    go_enter Try.func96, Try.ntmps96
    go_wp2_with fail
    refine wp_loop_rounds 1 ?_; rw [rounds_succ]
    go_wp2
    go_ret
    exact ⟨rfl, Below.refl _ _⟩
  · have hm := Nat.le_trans hlc hcm
    clear hlc hcm
    obtain ⟨n, hn⟩ : ∃ n, n = xs.length := ⟨_, rfl⟩
    rw [← hn] at hm hc ⊢
    unfold maxLen at hm
    have HN := Lib.hid hn
    have HC := Lib.hid hc
    have HP := Lib.hid hp
    have HL := Lib.hid hlt
    clear hn hp hc hlt
    go_enter Try.func96, Try.ntmps96
    go_wp2
    go_loopw [8] (fun i W => ∃ k : Nat, k ≤ n ∧ i = .int .i64 k ∧ Hid (∀ j, j < k → p (xs.getD j 0) = false) ∧ Hid (Below w.heap.size w W)) (fun i _ => n - (intOf i).toNat)
    case atStart => exact ⟨0, Nat.zero_le _, rfl, fun j hj => absurd hj (by omega), Below.refl _ _⟩
    case round =>
      obtain ⟨k, hk, rfl, HM, HB⟩ := hrel
      by_cases hlt : k < n
      · have k0 := (HB.out.cell (p := ⟨b, off + k, none⟩) HL.out).trans (HC.out k hlt)
        have hcall := HP.out wr (xs.getD k 0) HB.out (getD_mem _ _ _ (by rw [← HN.out]; exact hlt))
        cases hq : p (xs.getD k 0) with
        | true =>
          have hfin := Lib.hid (idxBy_hit 0 p xs 0 k (by rw [← HN.out]; exact hlt) HM.out hq)
          rw [hq] at hcall
          clear hq HP
          generalize xs.getD k 0 = t at k0 hcall
          have HCL := Lib.hid hcall
          clear hcall
          go_wp2_with (go_at_fn g; refine HCL.out.mono ?_; rintro e w' ⟨rfl, hb'⟩)
          go_ret
          exact ⟨by rw [hfin.out]; simp, hb'⟩
        | false =>
          have hnext : Hid (∀ j, j < k + 1 → p (xs.getD j 0) = false) := fun j hj => by
            by_cases e : j = k
            · subst e; exact hq
            · exact HM.out j (by omega)
          rw [hq] at hcall
          clear hq HM HP
          generalize xs.getD k 0 = t at k0 hcall
          have HCL := Lib.hid hcall
          clear hcall
          go_wp2_with (go_at_fn g; refine HCL.out.mono ?_; rintro e w' ⟨rfl, hb'⟩)
          go_roundw
          case rel => exact ⟨k + 1, by omega, by go_num, hnext, hb'⟩
          case measure => simp [intOf]; omega
      · have hfin := Lib.hid (idxBy_miss 0 p xs 0 (fun j hj => HM.out j (by have := HN.out; omega)))
        have hge : ¬ ((k : Int) < (n : Int)) := by omega
        clear HP HM HC
        go_wp2
        go_ret
        exact ⟨by rw [hfin.out]; rfl, HB.out⟩
theorem idxBy_any {α : Type} (p : α → Bool) (xs : List α) : ∀ i, 0 ≤ i → decide (0 ≤ idxBy p xs i) = xs.any p := by
  induction xs with
  | nil => intro i hi; simp [idxBy]
  | cons y r ih =>
    intro i hi
    cases hy : p y with
    | true => simp [idxBy, hy, hi]
    | false => simpa [idxBy, hy] using ih (i + 1) (by omega)
theorem containsFunc32 (p : Int → Bool) (g : Nat) (lb : Array Value) (eg : ∀ args w, (callFunc g args).run Try.prog w = .ok (.enter g args) w) (v : Value) (xs : List Int) (w : World) (hs : Shows w .u32 v xs)
    (hp : ∀ W x, Below w.heap.size w W → x ∈ xs → Calls Try.prog g (#[.int .u32 x] ++ lb) W fun e w' => e = .returned (.bool (p x)) ∧ Below w.heap.size w w') :
    Calls Try.prog 50 #[v, .func (.func g) #[] lb] w fun e w' => e = .returned (.bool (xs.any p)) ∧ Below w.heap.size w w' := by
  rw [← idxBy_any p xs 0 (Int.le_refl 0)]
  have HS := Lib.hid hs
  have HP := Lib.hid hp
  clear hs hp
  generalize hr : idxBy p xs 0 = r
  have HR := Lib.hid hr
  clear hr
  go_enter Try.func50, Try.ntmps50
  go_wp2_with (go_at_call 96; refine (indexFunc32 p g lb eg _ _ _ HS.out HP.out).mono ?_; rintro e w' ⟨rfl, hb'⟩; rw [HR.out])
  go_ret
  exact ⟨rfl, hb'⟩
end Go.Proofs.Ytlkpmlcmgggifaa
namespace Go.Proofs.Ytlkpmlcmgggifaa
open Go.RowKit
/-- The ticket in which a player is; 0. -/
def ofI (ts : List Tk) (x : Int) : Int := idOf (ts.find? (fun t => decide (x ∈ t.pl)))
def hitB (ts : List Tk) (pl : List Int) (k : Nat) : Bool := decide (pl.getD k 0 ∈ pl.take k) || ofI ts (pl.getD k 0) != 0
def doubledB (ts : List Tk) (pl : List Int) : Bool := (List.range pl.length).any (hitB ts pl)
theorem doubled_yes {ts : List Tk} {pl : List Int} {k : Nat} (hk : k < pl.length) (h : hitB ts pl k = true) : doubledB ts pl = true := by
  simp only [doubledB, List.any_eq_true, List.mem_range]; exact ⟨k, hk, h⟩
theorem doubled_no {ts : List Tk} {pl : List Int} (h : ∀ j, j < pl.length → hitB ts pl j = false) : doubledB ts pl = false := by
  rw [Bool.eq_false_iff]
  intro hc
  simp only [doubledB, List.any_eq_true, List.mem_range] at hc
  obtain ⟨k, hk, h1⟩ := hc
  rw [h k hk] at h1; cases h1
set_option maxHeartbeats 1600000 in
set_option maxRecDepth 100000 in
theorem doubled_any (base g : Nat) (va vs : Value) (ts : List Tk) (sizes : List Int) (v : Value) (pl : List Int) (w : World) (hq : QRep w base g va vs ts sizes) (hs : Shows w .u32 v pl) :
    Calls Try.prog 52 #[.pointer (some ⟨g, 0, none⟩), v] w fun e w' => e = .returned (.bool (doubledB ts pl)) ∧ Below w.heap.size w w' := by
  have HQ := Lib.hid hq
  clear hq
  rcases hs with ⟨rfl, rfl⟩ | ⟨b, off, c, rfl, hlc, hm, hlt, hc⟩
  · go_enter Try.func52, Try.ntmps52
    go_wp2_with fail
    refine wp_loop_rounds 1 ?_; rw [rounds_succ]
    go_wp2
    go_ret
    exact ⟨rfl, Below.refl _ _⟩
  · obtain ⟨n, hn⟩ : ∃ n, n = pl.length := ⟨_, rfl⟩
    rw [← hn] at hlc hc ⊢
    unfold maxLen at hm
    have HN := Lib.hid hn
    have HC := Lib.hid hc
    have HL := Lib.hid hlt
    have HMX := Lib.hid hm
    clear hn hc hlt
    go_enter Try.func52, Try.ntmps52
    go_wp2
    go_loopw [9] (fun i W => ∃ k : Nat, k ≤ n ∧ i = .int .i64 k ∧ Hid (∀ j, j < k → hitB ts pl j = false) ∧ Hid (Below w.heap.size w W)) (fun i _ => n - (intOf i).toNat)
    case atStart => exact ⟨0, Nat.zero_le _, rfl, fun j hj => absurd hj (by omega), Below.refl _ _⟩
    case round =>
      obtain ⟨k, hk, rfl, HM, HB⟩ := hrel
      by_cases hlt : k < n
      · have k0 := (HB.out.cell (p := ⟨b, off + k, none⟩) HL.out).trans (HC.out k hlt)
        have HS : Hid (Shows wr .u32 (.slice (some ⟨b, off, none⟩) k c) (pl.take k)) := .inr ⟨b, off, c, by rw [List.length_take, ← HN.out, Nat.min_eq_left hk], by rw [List.length_take]; have := HN.out; omega, by unfold maxLen; exact HMX.out, Nat.lt_of_lt_of_le HL.out HB.out.size, fun i hi => by
          rw [List.length_take] at hi
          rw [HB.out.cell (p := ⟨b, off + i, none⟩) HL.out, HC.out i (by omega)]
          simp [List.getD, List.getElem?_take, show i < k by omega]⟩
        have hfit : k ≤ c := by omega
        by_cases h1 : pl.getD k 0 ∈ pl.take k
        · have hfin := Lib.hid (doubled_yes (ts := ts) (by rw [← HN.out]; exact hlt) (show hitB ts pl k = true by simp only [hitB, h1, decide_true, Bool.true_or]))
          have hd : decide (pl.getD k 0 ∈ pl.take k) = true := by simpa using h1
          have HD := Lib.hid hd
          clear h1 hd
          generalize hx : pl.getD k 0 = x at k0
          have HX := Lib.hid hx
          clear hx
          go_wp2_with (go_at_call 62; refine (contains32 _ _ _ _ HS.out).mono ?_; rintro e w' ⟨rfl, rfl⟩; rw [← HX.out, HD.out])
          go_ret
          exact ⟨by rw [hfin.out]; rfl, HB.out⟩
        · have hd : decide (pl.getD k 0 ∈ pl.take k) = false := by simpa using h1
          have HD := Lib.hid hd
          have HE : Hid (hitB ts pl k = (ofI ts (pl.getD k 0) != 0)) := by show _ = _; simp only [hitB, hd, Bool.false_or]
          clear h1 hd
          generalize hx : pl.getD k 0 = x at k0
          have HX := Lib.hid hx
          clear hx
          cases ho : (ofI ts x != 0) with
          | true =>
            have hfin := Lib.hid (doubled_yes (ts := ts) (k := k) (pl := pl) (by rw [← HN.out]; exact hlt) (by rw [HE.out, HX.out, ho]))
            generalize hy : ofI ts x = y at ho
            have HY := Lib.hid hy
            clear hy
            go_wp2_with (first
              | (go_at_call 62; refine (contains32 _ _ _ _ HS.out).mono ?_; rintro e w' ⟨rfl, rfl⟩; rw [← HX.out, HD.out, HX.out])
              | (go_at_call 14; refine (of_some base g va vs ts sizes _ _ (HQ.out.below HB.out)).mono ?_; rintro e w' ⟨rfl, hb'⟩; rw [show idOf (ts.find? (fun t => decide (x ∈ t.pl))) = y from HY.out]; have HB2 := Lib.hid (HB.out.trans (hb'.mono HB.out.size)); clear hb'))
            go_ret
            exact ⟨by rw [hfin.out]; rfl, HB2.out⟩
          | false =>
            have hnext : Hid (∀ j, j < k + 1 → hitB ts pl j = false) := fun j hj => by
              by_cases e : j = k
              · subst e; rw [HE.out, HX.out, ho]
              · exact HM.out j (by omega)
            generalize hy : ofI ts x = y at ho
            have HY := Lib.hid hy
            clear hy
            go_wp2_with (first
              | (go_at_call 62; refine (contains32 _ _ _ _ HS.out).mono ?_; rintro e w' ⟨rfl, rfl⟩; rw [← HX.out, HD.out, HX.out])
              | (go_at_call 14; refine (of_some base g va vs ts sizes _ _ (HQ.out.below HB.out)).mono ?_; rintro e w' ⟨rfl, hb'⟩; rw [show idOf (ts.find? (fun t => decide (x ∈ t.pl))) = y from HY.out]; have HB2 := Lib.hid (HB.out.trans (hb'.mono HB.out.size)); clear hb'))
            go_roundw
            case rel => exact ⟨k + 1, by omega, by go_num, hnext, HB2.out⟩
            case measure => simp [intOf]; omega
      · have hfin := Lib.hid (doubled_no (ts := ts) (pl := pl) (fun j hj => HM.out j (by have := HN.out; omega)))
        have hge : ¬ ((k : Int) < (n : Int)) := by omega
        clear HM HC
        go_wp2
        go_ret
        exact ⟨by rw [hfin.out]; rfl, HB.out⟩
end Go.Proofs.Ytlkpmlcmgggifaa
namespace Go.Proofs.Ytlkpmlcmgggifaa
open Go.RowKit
theorem info39 : (Try.prog.info? 39).map (fun i => (i.zero, i.size, i.bytes)) = some (some (.agg #[.int .u32 0, .int .i64 0, .slice none 0 0, .int .i64 0, .int .i64 0]), 5, 56) := by kernel_rfl
/-- What a ticket is, wherever its players lie. -/
def Tk.key (t : Tk) : Int × Int × List Int × Int × Int := (t.id, t.mode, t.pl, t.rating, t.since)
/-- Own tickets in a row of the call's own. -/
structure ORow (w : World) (base : Nat) (v : Value) (ts : List Tk) : Prop where
  row : w.ownsRow base 39 5 v ts.length (ts.flatMap Tk.cs)
  pls : ∀ t ∈ ts, OwnN w base 33 .u32 t.pv t.pl
theorem ORow.below {w w' : World} {base : Nat} {v : Value} {ts : List Tk} (h : ORow w base v ts) (hb : Below w.heap.size w w') : ORow w' base v ts :=
  ⟨own_below h.row hb, fun t ht => own_below (h.pls t ht) hb⟩
theorem ORow.kept {w w' : World} {S : Nat → Prop} {base : Nat} {v : Value} {ts : List Tk} (h : ORow w base v ts) (hk : Kept w w' S) (hv : ∀ k, v.ownBlock = some k → ¬ S k) (hn : ∀ k cur, base ≤ k → Blk w k cur 33 → ¬ S k) : ORow w' base v ts :=
  ⟨own_kept h.row hk hv, fun t ht => own_kept (h.pls t ht) hk (fun k e => by obtain ⟨cur, hb, hg⟩ := own_blk (h.pls t ht) e; exact hn _ _ hg hb)⟩
def ModeRes (w w' : World) (fs : List Tk) (e : Ending) : Prop :=
  ∃ v' ts', e = .returned v' ∧ ORow w' w.heap.size v' ts' ∧ ts'.map Tk.key = fs.map Tk.key ∧ Below w.heap.size w w'
theorem cs_one (t : Tk) (h : t.pv.oneCell' = true) : ∀ u ∈ t.cs, u.oneCell' = true := by
  intro u hu
  simp only [Tk.cs, List.mem_cons, List.not_mem_nil, or_false] at hu
  rcases hu with rfl | rfl | rfl | rfl | rfl <;> first | rfl | exact h
theorem filter_take_succ {α : Type} (d : α) (p : α → Bool) (xs : List α) (k : Nat) (hk : k < xs.length) : (xs.take (k + 1)).filter p = (xs.take k).filter p ++ if p (xs.getD k d) = true then [xs.getD k d] else [] := by
  rw [List.take_succ_eq_append_getElem hk, List.filter_append]
  congr 1
  cases hp : p xs[k] <;> simp [List.getD, hk, hp]
set_option maxHeartbeats 3200000 in
set_option maxRecDepth 100000 in
theorem mode_some (base g : Nat) (va vs : Value) (ts : List Tk) (sizes : List Int) (m : Int) (w : World) (hq : QRep w base g va vs ts sizes) (hmany : ts.length ≤ 1000) :
    Calls Try.prog 12 #[.pointer (some ⟨g, 0, none⟩), .int .i64 m] w fun e w' => ModeRes w w' (ts.filter (fun t => t.mode == m)) e := by
  have h0 := hq.blk.cell 0
  simp only [List.getElem?_toArray, List.getElem?_cons_zero] at h0
  obtain ⟨i0, hi, hz0, hz1, hz2⟩ := info_parts info39
  have HI := Lib.hid hi
  have HZ0 := Lib.hid hz0
  have HZ1 := Lib.hid hz1
  have HZ2 := Lib.hid hz2
  clear hi hz0 hz1 hz2
  have hnn : ∀ (a : Addr) (w : World), (binOp .neq 23 (.pointer (some a)) (.pointer none)).run Try.prog w = .ok (.bool true) w := fun a w => by simp [go_sem]
  rcases own_trow hq.all with ⟨rfl, rfl⟩ | ⟨b, c, rfl, hm, hblt, ht⟩
  · clear hq
    go_enter Try.func12, Try.ntmps12
    go_wp2_with fail
    refine wp_loop_rounds 1 ?_; rw [rounds_succ]
    go_wp2
    go_ret
    exact ⟨_, [], rfl, ⟨World.ownsRow_nil _ _ _ _, fun t ht => by cases ht⟩, rfl, Below.refl _ _⟩
  · have HQ := Lib.hid hq
    have HT := Lib.hid ht
    obtain ⟨n, hn⟩ : ∃ n, n = ts.length := ⟨_, rfl⟩
    rw [← hn] at hmany h0 HT
    have HN := Lib.hid hn
    clear hq ht hm hn
    go_enter Try.func12, Try.ntmps12
    go_wp2_with fail
    go_loopw [5, 15] (fun o i W => ∃ (k : Nat) (ts' : List Tk), k ≤ n ∧ i = .int .i64 k ∧ Hid (ORow W w.heap.size o ts') ∧ Hid (ts'.map Tk.key = ((ts.take k).filter (fun t => t.mode == m)).map Tk.key) ∧ Hid (Below w.heap.size w W)) (fun _ i _ => n - (intOf i).toNat)
    case atStart => exact ⟨0, [], Nat.zero_le _, rfl, ⟨World.ownsRow_nil _ _ _ _, fun t ht => by cases ht⟩, rfl, Below.refl _ _⟩
    case round =>
      obtain ⟨k, ts', hk, rfl, HO, HK, HB⟩ := hrel
      by_cases hlt : k < n
      · have hrw := HT.out.below HB.out
        have k0 := hrw.c0 k hlt
        have k1 := hrw.c1 k hlt
        have k2 := hrw.c2 k hlt
        have k3 := hrw.c3 k hlt
        have k4 := hrw.c4 k hlt
        simp only [Nat.zero_add] at k0 k1 k2 k3 k4
        have HF := Lib.hid (filter_take_succ Tk.zero (fun t => t.mode == m) ts k (by rw [← HN.out]; exact hlt))
        have htm : ts.getD k Tk.zero ∈ ts := getD_mem _ _ _ (by rw [← HN.out]; exact hlt)
        have HS : Hid (Shows wr .u32 (ts.getD k Tk.zero).pv (ts.getD k Tk.zero).pl) := (HQ.out.pls _ htm).shows.below HB.out
        have HW := Lib.hid (HQ.out.few _ htm)
        have h1c := shows_oneCell HS.out
        clear hrw htm
        generalize ts.getD k Tk.zero = t at k0 k1 k2 k3 k4 h1c HS HW HF
        obtain ⟨A, cp, hpv, _⟩ := HS.out.form
        have HS2 : Hid (Shows wr .u32 (.slice A t.pl.length cp) t.pl) := by rw [← hpv]; exact HS.out
        rw [hpv] at k2
        clear hpv HS h1c
        cases hmd : (t.mode == m) with
        | false =>
          have HK2 : Hid (ts'.map Tk.key = ((ts.take (k + 1)).filter (fun t => t.mode == m)).map Tk.key) := by
            show _ = _
            rw [HF.out, HK.out]; simp [hmd]
          have HO2 := Lib.hid (HO.out.below ((Below.refl _ _).alloc (Nat.le_refl _) (.cells #[.int .u32 t.id, .int .i64 t.mode, .slice A t.pl.length cp, .int .i64 t.rating, .int .i64 t.since] 39)))
          have HB2 := Lib.hid (HB.out.alloc HB.out.size (.cells #[.int .u32 t.id, .int .i64 t.mode, .slice A t.pl.length cp, .int .i64 t.rating, .int .i64 t.since] 39))
          clear HK HO HB HF
          go_wp2_with fail
          go_roundw
          case rel => exact ⟨k + 1, ts', by omega, by go_num, HO2, HK2, HB2⟩
          case measure => simp [intOf]; omega
        | true =>
          have HK2 : Hid (ts'.map Tk.key ++ [t.key] = ((ts.take (k + 1)).filter (fun t => t.mode == m)).map Tk.key) := by
            show _ = _
            rw [HF.out, HK.out]; simp [hmd]
          have HLen : Hid (ts'.length ≤ 1000) := by
            have h1 := congrArg List.length HK.out
            simp only [List.length_map] at h1
            have h2 := List.length_filter_le (fun t : Tk => t.mode == m) (ts.take k)
            have h3 : (ts.take k).length ≤ k := List.length_take_le _ _
            show _ ≤ _
            omega
          have HO2 := Lib.hid (HO.out.below ((Below.refl _ _).alloc (Nat.le_refl _) (.cells #[.int .u32 t.id, .int .i64 t.mode, .slice A t.pl.length cp, .int .i64 t.rating, .int .i64 t.since] 39)))
          have HB2 := Lib.hid (HB.out.alloc HB.out.size (.cells #[.int .u32 t.id, .int .i64 t.mode, .slice A t.pl.length cp, .int .i64 t.rating, .int .i64 t.since] 39))
          have HS3 := Lib.hid (HS2.out.below ((Below.refl _ _).alloc (Nat.le_refl _) (.cells #[.int .u32 t.id, .int .i64 t.mode, .slice A t.pl.length cp, .int .i64 t.rating, .int .i64 t.since] 39)))
          clear HK HO HB HF HS2
          go_wp2_with (first
            | (go_at_call 56; refine (own_any _ _ _ _ _ t.pl _ HS3.out HW.out).mono ?_; rintro e w2 ⟨pv', rfl, hown, hb'⟩
               obtain ⟨A', c', rfl, _⟩ := hown.shows.form
               have HOW := Lib.hid (own_mono (own_below hown ((Below.refl _ _).alloc (Nat.le_refl _) (.cells #[.int .u32 t.id, .int .i64 t.mode, .slice A' t.pl.length c', .int .i64 t.rating, .int .i64 t.since] 39))) HB2.out.size)
               have HO3 := Lib.hid ((HO2.out.below hb').below ((Below.refl _ _).alloc (Nat.le_refl _) (.cells #[.int .u32 t.id, .int .i64 t.mode, .slice A' t.pl.length c', .int .i64 t.rating, .int .i64 t.since] 39)))
               have hb2 := HB2.out.trans (hb'.mono HB2.out.size)
               have HB3 := Lib.hid (hb2.alloc hb2.size (.cells #[.int .u32 t.id, .int .i64 t.mode, .slice A' t.pl.length c', .int .i64 t.rating, .int .i64 t.since] 39))
               clear hown hb' hb2)
            | (at_builtin; refine wpList_append_own _ rfl (.tmp 23) (.tmp 26) 44 rfl w.heap.size 39 i0 _ 5 56 Try.underlying44 HI.out HZ0.out HZ1.out HZ2.out rfl (by decide) _ ts'.length (ts'.flatMap Tk.cs) rfl HO3.out.row ⟨w2.heap.size, 0, none⟩ 1 1 [.int .u32 t.id, .int .i64 t.mode, .slice A' t.pl.length c', .int .i64 t.rating, .int .i64 t.since] rfl rfl
                 (World.news_of_block (cs := #[.int .u32 t.id, .int .i64 t.mode, .slice A' t.pl.length c', .int .i64 t.rating, .int .i64 t.since]) (t := 39) (fr := (0, 0)) (heap_alloc_new w2 _)) (by simp [Value.oneCell']) (by have := HLen.out; unfold maxLen; omega) (by have := HLen.out; omega) HB3.out.size ?_
               intro v' w3 hown3 hg3 hnil))
          go_roundw
          case rel =>
            refine ⟨k + 1, ts' ++ [⟨t.id, t.mode, .slice A' t.pl.length c', t.pl, t.rating, t.since⟩], by omega, by go_num, ⟨?_, ?_⟩, ?_, ?_⟩
            · rw [List.length_append, List.flatMap_append]; exact hown3
            · intro t' ht'
              rcases List.mem_append.1 ht' with h | h
              · exact own_kept (HO3.out.pls t' h) (kept_of_grown hg3) (fun k hk e => by
                  obtain ⟨c1, b1, _⟩ := own_blk (HO3.out.pls t' h) hk
                  obtain ⟨c2, b2, _⟩ := own_blk HO3.out.row e
                  exact absurd rfl (b1.ne b2 (by decide)))
              · rw [List.mem_singleton.1 h]
                exact own_kept HOW.out (kept_of_grown hg3) (fun k hk e => by
                  obtain ⟨c1, b1, _⟩ := own_blk HOW.out hk
                  obtain ⟨c2, b2, _⟩ := own_blk HO3.out.row e
                  exact absurd rfl (b1.ne b2 (by decide)))
            · show List.map Tk.key (ts' ++ [_]) = _
              rw [← HK2.out, List.map_append]; rfl
            · exact HB3.out.grown hg3 HB3.out.size (fun k hk => by obtain ⟨c2, b2, h2⟩ := own_blk HO3.out.row hk; exact h2)
          case measure => simp [intOf]; omega
      · have hge : ¬ ((k : Int) < (n : Int)) := by omega
        have HE : Hid (ts.take k = ts) := List.take_of_length_le (by have := HN.out; omega)
        go_wp2
        go_ret
        exact ⟨_, ts', rfl, HO.out, by rw [HK.out, HE.out], HB.out⟩
end Go.Proofs.Ytlkpmlcmgggifaa
namespace Go.Proofs.Ytlkpmlcmgggifaa
open Go.RowKit
theorem mode_nil (m : Int) (w : World) : Calls Try.prog 12 #[.pointer none, .int .i64 m] w fun e w' => e = .returned (.slice none 0 0) ∧ w = w' := by
  go_enter Try.func12, Try.ntmps12
  go_wp2
  go_ret
  exact ⟨rfl, rfl⟩
/-- how a waiting ticket stands to another one -/
def ordT (a b : Tk) : Int := ordI a.id a.since b.id b.since
/-- What a search comes to: the first place where it is no more below. -/
def SearchRes (w w' : World) (n : Nat) (c : Nat → Int) (e : Ending) : Prop :=
  ∃ (k : Nat) (found : Bool), e = .returned (.tuple #[.int .i64 k, .bool found]) ∧ k ≤ n ∧ (∀ i, i < k → c i < 0) ∧ (∀ i, k ≤ i → i < n → 0 ≤ c i) ∧ (found = decide (k < n ∧ c k = 0)) ∧ Below w.heap.size w w'
set_option maxHeartbeats 3200000 in
set_option maxRecDepth 100000 in
theorem search_at (b n c : Nat) (ts : List Tk) (x : Tk) (w : World) (hn : n ≤ 1000) (ht : TRow w b 0 n ts) (hpl : ∀ t ∈ ts, ∃ A m c', t.pv = .slice A m c') (hx : ∃ A m c', x.pv = .slice A m c')
    (hmono : ∀ i j, i ≤ j → j < n → ordT (ts.getD j Tk.zero) x < 0 → ordT (ts.getD i Tk.zero) x < 0) :
    Calls Try.prog 53 #[.slice (some ⟨b, 0, none⟩) n c, .agg #[.int .u32 x.id, .int .i64 x.mode, x.pv, .int .i64 x.rating, .int .i64 x.since], .func (.func 54) #[] #[]] w
      fun e w' => SearchRes w w' n (fun i => ordT (ts.getD i Tk.zero) x) e := by
  obtain ⟨XA, Xm, Xc, hxp⟩ := hx
  rw [hxp]
  have HT := Lib.hid ht
  have HM := Lib.hid hmono
  have HP := Lib.hid hpl
  clear ht hmono hpl hxp
  go_enter Try.func53, Try.ntmps53
  go_wp2_with fail
  have B0 := Lib.hid ((Below.refl w.heap.size w).alloc (Nat.le_refl _) (.cells #[.int .u32 x.id, .int .i64 x.mode, .slice XA Xm Xc, .int .i64 x.rating, .int .i64 x.since] 39))
  have X0 : Hid (Blk (w.alloc (.cells #[.int .u32 x.id, .int .i64 x.mode, .slice XA Xm Xc, .int .i64 x.rating, .int .i64 x.since] 39)) w.heap.size #[.int .u32 x.id, .int .i64 x.mode, .slice XA Xm Xc, .int .i64 x.rating, .int .i64 x.since] 39) := heap_alloc_new w _
  go_loopw [9, 10] (fun si sj W => ∃ i j : Nat, i ≤ j ∧ j ≤ n ∧ si = .int .i64 i ∧ sj = .int .i64 j ∧ Hid (∀ l, l < i → ordT (ts.getD l Tk.zero) x < 0) ∧ Hid (∀ l, j ≤ l → l < n → 0 ≤ ordT (ts.getD l Tk.zero) x) ∧ Hid (Blk W w.heap.size #[.int .u32 x.id, .int .i64 x.mode, .slice XA Xm Xc, .int .i64 x.rating, .int .i64 x.since] 39) ∧ Hid (Below w.heap.size w W)) (fun si sj _ => (intOf sj).toNat - (intOf si).toNat)
  case atStart => exact ⟨0, n, Nat.zero_le _, Nat.le_refl _, rfl, rfl, fun l hl => absurd hl (by omega), fun l h1 h2 => absurd h1 (by omega), X0.out, B0.out⟩
  case round =>
    obtain ⟨i, j, hij, hjn, rfl, rfl, HI, HJ, HX, HB⟩ := hrel
    by_cases hlt : i < j
    · have hlt' : (i : Int) < (j : Int) := by omega
      go_wp2_with fail
      rw [show ((i : Int) + (j : Int)) / 2 = (((i + j) / 2 : Nat) : Int) from by omega]
      obtain ⟨h, hh⟩ : ∃ h, h = (i + j) / 2 := ⟨_, rfl⟩
      have h1 : i ≤ h := by omega
      have h2 : h < j := by omega
      rw [← hh]
      clear hh
      have hrw := HT.out.below HB.out
      have hbl := hrw.lt (by omega)
      have k0 := hrw.c0 h (by omega)
      have k1 := hrw.c1 h (by omega)
      have k2 := hrw.c2 h (by omega)
      have k3 := hrw.c3 h (by omega)
      have k4 := hrw.c4 h (by omega)
      simp only [Nat.zero_add] at k0 k1 k2 k3 k4
      have x0 := HX.out.cell 0
      have x1 := HX.out.cell 1
      have x2 := HX.out.cell 2
      have x3 := HX.out.cell 3
      have x4 := HX.out.cell 4
      simp only [List.getElem?_toArray, List.getElem?_cons_zero, List.getElem?_cons_succ] at x0 x1 x2 x3 x4
      obtain ⟨A, m, c', hpv⟩ := HP.out _ (getD_mem Tk.zero ts h (by have := HT.out.len; omega))
      rw [hpv] at k2
      have hxl := HX.out.lt
      have hhn : (h : Int) < (n : Int) := by omega
      obtain ⟨t, htd⟩ : ∃ t, t = ts.getD h Tk.zero := ⟨_, rfl⟩
      rw [← htd] at k0 k1 k3 k4
      have HTD := Lib.hid htd
      clear htd hpv hrw
      go_region_held3 (fun w' => w'.cell? ⟨b, h * 5, none⟩ = some (.int .u32 t.id) ∧ w'.cell? ⟨b, h * 5 + 1, none⟩ = some (.int .i64 t.mode) ∧ w'.cell? ⟨b, h * 5 + 2, none⟩ = some (.slice A m c') ∧ w'.cell? ⟨b, h * 5 + 3, none⟩ = some (.int .i64 t.rating) ∧ w'.cell? ⟨b, h * 5 + 4, none⟩ = some (.int .i64 t.since) ∧
          w'.cell? ⟨w.heap.size, 0, none⟩ = some (.int .u32 x.id) ∧ w'.cell? ⟨w.heap.size, 1, none⟩ = some (.int .i64 x.mode) ∧ w'.cell? ⟨w.heap.size, 2, none⟩ = some (.slice XA Xm Xc) ∧ w'.cell? ⟨w.heap.size, 3, none⟩ = some (.int .i64 x.rating) ∧ w'.cell? ⟨w.heap.size, 4, none⟩ = some (.int .i64 x.since))
        (first | go_keep | exact ⟨(hb'.cell (p := ⟨b, h * 5, none⟩) hbl).trans k0, (hb'.cell (p := ⟨b, h * 5 + 1, none⟩) hbl).trans k1, (hb'.cell (p := ⟨b, h * 5 + 2, none⟩) hbl).trans k2, (hb'.cell (p := ⟨b, h * 5 + 3, none⟩) hbl).trans k3, (hb'.cell (p := ⟨b, h * 5 + 4, none⟩) hbl).trans k4, (hb'.cell (p := ⟨w.heap.size, 0, none⟩) hxl).trans x0, (hb'.cell (p := ⟨w.heap.size, 1, none⟩) hxl).trans x1, (hb'.cell (p := ⟨w.heap.size, 2, none⟩) hxl).trans x2, (hb'.cell (p := ⟨w.heap.size, 3, none⟩) hxl).trans x3, (hb'.cell (p := ⟨w.heap.size, 4, none⟩) hxl).trans x4⟩)
        (first | (go_at_call 54; refine (order_any _ _ _ _ _ _ _ _ _ _ _ rfl rfl).mono ?_; rintro e w' ⟨rfl, hb'⟩))
      obtain ⟨r, hr⟩ : ∃ r, r = ordI t.id t.since x.id x.since := ⟨_, rfl⟩
      rw [← hr]
      have HR : Hid (ordT (ts.getD h Tk.zero) x = r) := by show _ = _; rw [← HTD.out, hr]; rfl
      have HB2 := Lib.hid (HB.out.drew.trans (hb'.mono HB.out.size))
      have HX2 := Lib.hid ((show Blk wr.drew _ _ _ from HX.out).below hb')
      clear hr k0 k1 k2 k3 k4 x0 x1 x2 x3 x4 hb' HX HB
      by_cases hneg : r < 0
      · have HI2 : Hid (∀ l, l < h + 1 → ordT (ts.getD l Tk.zero) x < 0) := fun l hl => HM.out l h (by omega) (by omega) (by rw [HR.out]; exact hneg)
        go_wp2
        go_roundw
        case rel => exact ⟨h + 1, j, by omega, hjn, by go_num, rfl, HI2, HJ, HX2, HB2⟩
        case measure => simp [intOf]; omega
      · have HJ2 : Hid (∀ l, h ≤ l → l < n → 0 ≤ ordT (ts.getD l Tk.zero) x) := fun l h3 h4 => by
          apply Int.not_lt.1
          intro hc
          exact hneg (by rw [← HR.out]; exact HM.out h l h3 h4 hc)
        go_wp2
        go_roundw
        case rel => exact ⟨i, h, h1, by omega, rfl, rfl, HI, HJ2, HX2, HB2⟩
        case measure => simp [intOf]; omega
    · have hij' : i = j := by omega
      subst hij'
      have hge : ¬ ((i : Int) < (i : Int)) := by omega
      by_cases hin : i < n
      · go_wp2_with fail
        have hrw := HT.out.below HB.out
        have hbl := hrw.lt (by omega)
        have k0 := hrw.c0 i (by omega)
        have k1 := hrw.c1 i (by omega)
        have k2 := hrw.c2 i (by omega)
        have k3 := hrw.c3 i (by omega)
        have k4 := hrw.c4 i (by omega)
        simp only [Nat.zero_add] at k0 k1 k2 k3 k4
        have x0 := HX.out.cell 0
        have x1 := HX.out.cell 1
        have x2 := HX.out.cell 2
        have x3 := HX.out.cell 3
        have x4 := HX.out.cell 4
        simp only [List.getElem?_toArray, List.getElem?_cons_zero, List.getElem?_cons_succ] at x0 x1 x2 x3 x4
        obtain ⟨A, m, c', hpv⟩ := HP.out _ (getD_mem Tk.zero ts i (by have := HT.out.len; omega))
        rw [hpv] at k2
        have hxl := HX.out.lt
        have hhn : (i : Int) < (n : Int) := by omega
        obtain ⟨t, htd⟩ : ∃ t, t = ts.getD i Tk.zero := ⟨_, rfl⟩
        rw [← htd] at k0 k1 k3 k4
        have HTD := Lib.hid htd
        clear htd hpv hrw
        go_region_held3 (fun w' => w'.cell? ⟨b, i * 5, none⟩ = some (.int .u32 t.id) ∧ w'.cell? ⟨b, i * 5 + 1, none⟩ = some (.int .i64 t.mode) ∧ w'.cell? ⟨b, i * 5 + 2, none⟩ = some (.slice A m c') ∧ w'.cell? ⟨b, i * 5 + 3, none⟩ = some (.int .i64 t.rating) ∧ w'.cell? ⟨b, i * 5 + 4, none⟩ = some (.int .i64 t.since) ∧ w'.cell? ⟨w.heap.size, 0, none⟩ = some (.int .u32 x.id) ∧ w'.cell? ⟨w.heap.size, 1, none⟩ = some (.int .i64 x.mode) ∧ w'.cell? ⟨w.heap.size, 2, none⟩ = some (.slice XA Xm Xc) ∧ w'.cell? ⟨w.heap.size, 3, none⟩ = some (.int .i64 x.rating) ∧ w'.cell? ⟨w.heap.size, 4, none⟩ = some (.int .i64 x.since))
          (first | go_keep | exact ⟨(hb'.cell (p := ⟨b, i * 5, none⟩) hbl).trans k0, (hb'.cell (p := ⟨b, i * 5 + 1, none⟩) hbl).trans k1, (hb'.cell (p := ⟨b, i * 5 + 2, none⟩) hbl).trans k2, (hb'.cell (p := ⟨b, i * 5 + 3, none⟩) hbl).trans k3, (hb'.cell (p := ⟨b, i * 5 + 4, none⟩) hbl).trans k4, (hb'.cell (p := ⟨w.heap.size, 0, none⟩) hxl).trans x0, (hb'.cell (p := ⟨w.heap.size, 1, none⟩) hxl).trans x1, (hb'.cell (p := ⟨w.heap.size, 2, none⟩) hxl).trans x2, (hb'.cell (p := ⟨w.heap.size, 3, none⟩) hxl).trans x3, (hb'.cell (p := ⟨w.heap.size, 4, none⟩) hxl).trans x4⟩)
          (first | (go_at_call 54; refine (order_any _ _ _ _ _ _ _ _ _ _ _ rfl rfl).mono ?_; rintro e w' ⟨rfl, hb'⟩))
        have HB2 := Lib.hid (HB.out.drew.trans (hb'.mono HB.out.size))
        obtain ⟨r, hr⟩ : ∃ r, r = ordI t.id t.since x.id x.since := ⟨_, rfl⟩
        rw [← hr]
        have HR : Hid (ordT (ts.getD i Tk.zero) x = r) := by show _ = _; rw [← HTD.out, hr]; rfl
        clear hr k0 k1 k2 k3 k4 x0 x1 x2 x3 x4 hb' HX HB
        go_wp2
        go_ret2
        exact ⟨i, _, rfl, hjn, HI.out, HJ.out, by show _ = decide (i < n ∧ ordT (ts.getD i Tk.zero) x = 0); rw [HR.out]; simp [hin]; rfl, HB2.out⟩
      · have hd : decide ((i : Int) < (n : Int)) = false := by simp; omega
        have hd2 : ¬ ((i : Int) < (n : Int)) := by omega
        go_wp2_with fail
        go_quiet (fail)
        go_wp2
        go_ret2
        exact ⟨i, false, rfl, hjn, HI.out, HJ.out, by simp [hin], below_drewN HB.out _⟩
/-- .. and at a queue's own row, nil too. -/
theorem search_any (base e0 : Nat) (va : Value) (ts : List Tk) (x : Tk) (w : World) (hn : ts.length ≤ 1000) (hr : w.ownsRow base e0 5 va ts.length (ts.flatMap Tk.cs)) (hpl : ∀ t ∈ ts, ∃ A m c', t.pv = .slice A m c') (hx : ∃ A m c', x.pv = .slice A m c')
    (hmono : ∀ i j, i ≤ j → j < ts.length → ordT (ts.getD j Tk.zero) x < 0 → ordT (ts.getD i Tk.zero) x < 0) :
    Calls Try.prog 53 #[va, .agg #[.int .u32 x.id, .int .i64 x.mode, x.pv, .int .i64 x.rating, .int .i64 x.since], .func (.func 54) #[] #[]] w
      fun e w' => SearchRes w w' ts.length (fun i => ordT (ts.getD i Tk.zero) x) e := by
  rcases own_trow hr with ⟨rfl, rfl⟩ | ⟨b, c, rfl, hm, hlt, ht⟩
  · obtain ⟨XA, Xm, Xc, hxp⟩ := hx
    rw [hxp]
    clear hxp hpl hmono hr hn
    go_enter Try.func53, Try.ntmps53
    go_wp2_with fail
    refine wp_loop_rounds 1 ?_; rw [rounds_succ]
    go_wp2_with fail
    go_quiet (fail)
    go_wp2
    go_ret2
    exact ⟨0, false, rfl, Nat.le_refl _, fun i hi => absurd hi (by omega), fun i _ hi => absurd hi (by simp), by simp, below_drewN ((Below.refl _ _).alloc (Nat.le_refl _) _) _⟩
  · exact search_at b _ c ts x w hn ht hpl hx hmono
end Go.Proofs.Ytlkpmlcmgggifaa
