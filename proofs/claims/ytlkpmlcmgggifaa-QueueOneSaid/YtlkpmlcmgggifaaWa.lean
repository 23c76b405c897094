/- Words for the contracts: which blocks a call may have turned, rows that the call owns, and plain facts on them. -/
import Derived.Test.YtlkpmlcmgggifaaProg
import Derived.WalkKit
import Derived.WalkLawsBesides
import Derived.WalkSpells
import Derived.Lib.Hide
import Derived.Lib.SliceRun
import Derived.Deep.AppendLies
set_option linter.unusedVariables false
set_option linter.unusedSimpArgs false
namespace Go.Proofs.Ytlkpmlcmgggifaa
open Go.RowKit

/-- Of what was there only the blocks of S may have turned. -/
structure Kept (w w' : World) (S : Nat → Prop) : Prop where
  os : w'.os = w.os
  tape : w'.tape = w.tape
  output : w'.output = w.output
  size : w.heap.size ≤ w'.heap.size
  block : ∀ k, k < w.heap.size → ¬ S k → w'.heap[k]? = w.heap[k]?

theorem Kept.refl (w : World) (S : Nat → Prop) : Kept w w S := ⟨rfl, rfl, rfl, Nat.le_refl _, fun _ _ _ => rfl⟩
theorem Kept.trans {w w1 w2 : World} {S S' : Nat → Prop} (h : Kept w w1 S) (k : Kept w1 w2 S') (hs : ∀ j, j < w.heap.size → S' j → S j) : Kept w w2 S :=
  ⟨k.os.trans h.os, k.tape.trans h.tape, k.output.trans h.output, Nat.le_trans h.size k.size,
    fun j hj hn => (k.block j (Nat.lt_of_lt_of_le hj h.size) (fun c => hn (hs j hj c))).trans (h.block j hj hn)⟩
theorem Kept.mono {w w1 : World} {S S' : Nat → Prop} (h : Kept w w1 S) (hs : ∀ j, j < w.heap.size → S j → S' j) : Kept w w1 S' :=
  ⟨h.os, h.tape, h.output, h.size, fun j hj hn => h.block j hj (fun c => hn (hs j hj c))⟩
theorem kept_of_below {w w1 : World} (h : Below w.heap.size w w1) (S : Nat → Prop) : Kept w w1 S :=
  ⟨h.os, h.tape, h.output, h.size, fun j hj _ => h.block j hj⟩
theorem below_of_kept {w w1 : World} {S : Nat → Prop} (h : Kept w w1 S) {B : Nat} (hB : B ≤ w.heap.size) (hs : ∀ j, j < B → ¬ S j) : Below B w w1 :=
  ⟨h.os, h.tape, h.output, h.size, fun j hj => h.block j (Nat.lt_of_lt_of_le hj hB) (hs j hj)⟩
theorem kept_of_grown {w w1 : World} {row : Option Nat} (h : w.grownBy w1 row) : Kept w w1 (fun k => row = some k) :=
  ⟨h.os, h.tape, h.output, h.size, fun j hj hn => h.block j hj (fun e => hn e.symm)⟩
theorem Kept.setCell {w w1 : World} {S : Nat → Prop} (h : Kept w w1 S) {a : Addr} (ha : a.block < w.heap.size → S a.block) (v : Value) : Kept w (w1.setCell a v) S :=
  ⟨h.os, h.tape, h.output, by simpa [World.setCell] using h.size, fun k hk hn => by
    rw [Below.heap_setCell _ _ _ _ (fun e => hn (by subst e; exact ha hk))]; exact h.block k hk hn⟩
theorem Kept.alloc {w w1 : World} {S : Nat → Prop} (h : Kept w w1 S) (o : Obj) : Kept w (w1.alloc o) S :=
  ⟨h.os, h.tape, h.output, by have := h.size; simp; omega, fun k hk hn => (Below.heap_alloc _ _ _ (Nat.lt_of_lt_of_le hk h.size)).trans (h.block k hk hn)⟩
theorem Kept.drew {w w1 : World} {S : Nat → Prop} (h : Kept w w1 S) : Kept w w1.drew S := ⟨h.os, h.tape, h.output, h.size, h.block⟩
theorem Kept.cell {w w1 : World} {S : Nat → Prop} (h : Kept w w1 S) {p : Addr} (hp : p.block < w.heap.size) (hn : ¬ S p.block) : w1.cell? p = w.cell? p := World.cell?_of_block (w := w) (h.block p.block hp hn)
theorem Kept.frozen {w w1 : World} {S : Nat → Prop} (h : Kept w w1 S) {p : Addr} (hp : p.block < w.heap.size) (hn : ¬ S p.block) : w1.frozen? p = w.frozen? p := World.frozen?_of_block (w := w) (h.block p.block hp hn)

/-- An owned row stays where its block has not turned. -/
theorem own_kept {w w' : World} {S : Nat → Prop} {base : Nat} {e : TypeId} {size : Nat} {v : Value} {n : Nat} {xs : List Value} (h : w.ownsRow base e size v n xs) (hk : Kept w w' S)
    (hn : ∀ k, v.ownBlock = some k → ¬ S k) : w'.ownsRow base e size v n xs := by
  refine ⟨h.1, ?_⟩
  rcases h.2 with hn' | ⟨g, cap, cur, rfl, hb, hgg, rest⟩
  · exact .inl hn'
  · exact .inr ⟨g, cap, cur, rfl, hb, by rw [hk.block g (Array.getElem?_eq_some_iff.1 hgg).1 (hn g rfl)]; exact hgg, rest⟩
theorem own_below {w w' : World} {base : Nat} {e : TypeId} {size : Nat} {v : Value} {n : Nat} {xs : List Value} (h : w.ownsRow base e size v n xs) (hk : Below w.heap.size w w') : w'.ownsRow base e size v n xs :=
  own_kept h (kept_of_below hk (fun _ => False)) (fun _ _ c => c)
theorem own_mono {w : World} {base base' : Nat} {e : TypeId} {size : Nat} {v : Value} {n : Nat} {xs : List Value} (h : w.ownsRow base e size v n xs) (hb : base' ≤ base) : w.ownsRow base' e size v n xs := by
  refine ⟨h.1, ?_⟩
  rcases h.2 with hn' | ⟨g, cap, cur, rfl, hbg, rest⟩
  · exact .inl hn'
  · exact .inr ⟨g, cap, cur, rfl, Nat.le_trans hb hbg, rest⟩

/-- A block of cells. -/
def Blk (w : World) (g : Nat) (cs : Array Value) (t : TypeId) : Prop := w.heap[g]? = some (.cells cs t (0, 0))
theorem Blk.lt {w : World} {g : Nat} {cs : Array Value} {t : TypeId} (h : Blk w g cs t) : g < w.heap.size := (Array.getElem?_eq_some_iff.1 h).1
theorem Blk.cell {w : World} {g : Nat} {cs : Array Value} {t : TypeId} (h : Blk w g cs t) (j : Nat) : w.cell? ⟨g, j, none⟩ = cs[j]? := cell_of_row w g j cs t (0, 0) h
theorem Blk.frozen {w : World} {g : Nat} {cs : Array Value} {t : TypeId} (h : Blk w g cs t) (j : Nat) : w.frozen? ⟨g, j, none⟩ = false := frozen_of_row w g j cs t h
theorem Blk.kept {w w' : World} {S : Nat → Prop} {g : Nat} {cs : Array Value} {t : TypeId} (h : Blk w g cs t) (hk : Kept w w' S) (hn : ¬ S g) : Blk w' g cs t := (hk.block g h.lt hn).trans h
theorem Blk.below {w w' : World} {g : Nat} {cs : Array Value} {t : TypeId} (h : Blk w g cs t) (hk : Below w.heap.size w w') : Blk w' g cs t := (hk.block g h.lt).trans h
theorem Blk.ne {w : World} {g g' : Nat} {cs cs' : Array Value} {t t' : TypeId} (h : Blk w g cs t) (h' : Blk w g' cs' t') (hne : t ≠ t') : g ≠ g' := by
  intro e; subst e
  have := Option.some.inj (h.symm.trans h')
  injection this with _ e2 _
  exact hne e2
theorem own_blk {w : World} {base : Nat} {e : TypeId} {size : Nat} {v : Value} {n : Nat} {xs : List Value} (h : w.ownsRow base e size v n xs) {k : Nat} (hk : v.ownBlock = some k) : ∃ cur, Blk w k cur e ∧ base ≤ k := by
  rcases h.2 with ⟨rfl, _⟩ | ⟨g, cap, cur, rfl, hb, hgg, rest⟩
  · cases hk
  · simp [Value.ownBlock] at hk; subst hk; exact ⟨cur, hgg, hb⟩

theorem own_setCell {w : World} {base : Nat} {e : TypeId} {size : Nat} {v : Value} {n : Nat} {xs : List Value} (h : w.ownsRow base e size v n xs) {a : Addr} (hne : ∀ k, v.ownBlock = some k → k ≠ a.block) (u : Value) : (w.setCell a u).ownsRow base e size v n xs :=
  own_kept h (Kept.setCell (S := fun k => k = a.block) (Kept.refl _ _) (fun _ => rfl) u) (fun k e => hne k e)
theorem own_ne {w : World} {base : Nat} {e : TypeId} {size : Nat} {v : Value} {n : Nat} {xs : List Value} (h : w.ownsRow base e size v n xs) {g : Nat} {cs : Array Value} {t : TypeId} (hb : Blk w g cs t) (hne : e ≠ t) : ∀ k, v.ownBlock = some k → k ≠ g := fun k hk => by
  obtain ⟨cur, h1, _⟩ := own_blk h hk
  exact h1.ne hb hne
theorem below_ref (w : World) : Below w.heap.size w w := Below.refl _ _
theorem below_then {w w1 w2 : World} (h : Below w.heap.size w w1) (k : Below w1.heap.size w1 w2) : Below w.heap.size w w2 := h.trans (k.mono h.size)
/-- all old cells and marks read as before -/
theorem bcell {W w1 : World} (hb : Below W.heap.size W w1) : (∀ b o, b < W.heap.size → w1.cell? ⟨b, o, none⟩ = W.cell? ⟨b, o, none⟩) ∧ (∀ b o, b < W.heap.size → w1.frozen? ⟨b, o, none⟩ = W.frozen? ⟨b, o, none⟩) :=
  ⟨fun b o h => hb.cell (p := ⟨b, o, none⟩) h, fun b o h => hb.frozen (p := ⟨b, o, none⟩) h⟩
end Go.Proofs.Ytlkpmlcmgggifaa
