/- QueueAgain: the given statement, proved. -/
import Derived.Test.YtlkpmlcmgggifaaRows
import Derived.Test.YtlkpmlcmgggifaaQt
import Derived.WalkKit
import Derived.ProofKit
import Derived.OpenShut
import Derived.ChangeOld
import Derived.Below
import Derived.Deep.Slices
set_option linter.unusedVariables false
set_option linter.unusedSimpArgs false
namespace Go.Proofs.Ytlkpmlcmgggifaa
open Go.ChangeShapes Go.WideShapes Go.ChangeAt Go.RowKit Go.Deep
instance : Inhabited Tk := ⟨Tk.zero⟩
theorem lawOwnKnob : ownKnob Try.prog.godebug = none := by kernel_rfl
theorem lawLaidOut : laidOutB Try.prog = true := by kernel_rfl
theorem lawCells : Try.prog.cellsOf 36 = 5 := by kernel_rfl
theorem lawCellsU : Try.prog.cellsOf 33 = 1 := by kernel_rfl
theorem lawCellsI : Try.prog.cellsOf 3 = 1 := by kernel_rfl
theorem lawCellsL : Try.prog.cellsOf 2 = 1 := by kernel_rfl
theorem lawCellsS : Try.prog.cellsOf 34 = 1 := by kernel_rfl
/-- A row of ids, as it reads. -/
theorem shows_of_trod {H : Type} {enc : TypeId × Value → H} {W : World} {fuel : Nat} {cs : List Value} {x : DataW H × List MemPlace} (h : DataW.trod enc Try.prog W 0 (fun _ => true) true fuel 34 cs = some x) : ∃ v xs, cs = [v] ∧ ShowsA W .u32 v xs := by
  rcases open_slice1 Try.underlying34 lawCellsU h with ⟨rfl, _⟩ | ⟨a, len, cap, m, n, V, D, Pl, rfl, _, hl, hm, hmm, _, hx⟩
  · exact ⟨_, [], rfl, .inl (.inl ⟨rfl, rfl⟩)⟩
  · have hmc : m = cap := by simpa using hmm
    subst hmc
    rcases Nat.eq_zero_or_pos len with h0 | hp
    · subst h0
      exact ⟨_, [], rfl, .inr ⟨rfl, a, m, rfl⟩⟩
    · have hV : ∀ i, i < m → ∃ z : Int, V i = .int .u32 z := fun i hi => by
        obtain ⟨z, hz, _⟩ := DataW.trod_int Try.underlying33 (hx i hi).2
        exact ⟨z, by simpa using hz⟩
      obtain ⟨Z, hZ⟩ := choose_lt (α := Int) (p := fun i z => V i = .int .u32 z) hV
      obtain ⟨b, off, spot⟩ := a
      have hc0 := (hx 0 (by omega)).1
      have hspot : spot = none := by simpa [Addr.add] using World.cell?_spot hc0
      subst hspot
      have hlt : b < W.heap.size := by
        rw [Addr.add_lit] at hc0
        exact cell_lt hc0
      refine ⟨_, (List.range len).map Z, rfl, .inl (.inr ⟨b, off, m, by simp, by simpa using hl, hm, hlt, ?_⟩)⟩
      intro j hj
      have hj' : j < len := by simpa using hj
      have := (hx j (by omega)).1
      rw [Addr.add_lit, hZ j (by omega)] at this
      simpa [List.getD, hj'] using this
/-- Tickets of the document, as they read. -/
theorem argT_of_trod {H : Type} {enc : TypeId × Value → H} {W : World} {fuel : Nat} {cs : List Value} {x : DataW H × List MemPlace} (h : DataW.trod enc Try.prog W 0 (fun _ => true) true fuel 22 cs = some x) : ∃ v ts, cs = [v] ∧ ArgT W v ts := by
  rcases open_slice Try.underlying22 h with ⟨rfl, _⟩ | ⟨a, len, cap, m, n, D, Pl, rfl, _, hl, hm, hmm, _, hx⟩
  · exact ⟨_, [], rfl, .inl ⟨rfl, _, _, rfl⟩⟩
  · have hmc : m = cap := by simpa using hmm
    subst hmc
    rcases Nat.eq_zero_or_pos len with h0 | hp
    · subst h0
      exact ⟨_, [], rfl, .inl ⟨rfl, _, _, rfl⟩⟩
    · rw [lawCells] at hx
      have hT : ∀ i, i < m → ∃ t : Tk, (∀ j, j < 5 → W.cell? ((a.add (i * 5)).add j) = t.cs[j]?) ∧ ShowsA W .u32 t.pv t.pl := fun i hi => by
        obtain ⟨cs', h1, h2⟩ := hx i hi
        obtain ⟨_, hlen, hcell⟩ := World.cells?_some h1
        obtain ⟨c0, c1, c2, c3, c4, rfl⟩ : ∃ c0 c1 c2 c3 c4, cs' = [c0, c1, c2, c3, c4] := by
          match cs', hlen with
          | [c0, c1, c2, c3, c4], _ => exact ⟨c0, c1, c2, c3, c4, rfl⟩
        obtain ⟨ys, n', _, _, _, hys, hf⟩ := DataW.trod_struct Try.underlying36 h2
        match ys, hys with
        | [y0, y1, y2, y3, y4], _ =>
        have f0 : DataW.trod enc Try.prog W 0 (fun _ => true) true n' 33 [c0] = some y0 := by simpa [lawCellsU] using hf 0 _ rfl
        have f1 : DataW.trod enc Try.prog W 0 (fun _ => true) true n' 3 [c1] = some y1 := by simpa [lawCellsI] using hf 1 _ rfl
        have f2 : DataW.trod enc Try.prog W 0 (fun _ => true) true n' 34 [c2] = some y2 := by simpa [lawCellsS] using hf 2 _ rfl
        have f3 : DataW.trod enc Try.prog W 0 (fun _ => true) true n' 3 [c3] = some y3 := by simpa [lawCellsI] using hf 3 _ rfl
        have f4 : DataW.trod enc Try.prog W 0 (fun _ => true) true n' 2 [c4] = some y4 := by simpa [lawCellsL] using hf 4 _ rfl
        obtain ⟨z0, e0, _⟩ := DataW.trod_int Try.underlying33 f0
        obtain ⟨z1, e1, _⟩ := DataW.trod_int Try.underlying3 f1
        obtain ⟨v2, xs, e2, hs⟩ := shows_of_trod f2
        obtain ⟨z3, e3, _⟩ := DataW.trod_int Try.underlying3 f3
        obtain ⟨z4, e4, _⟩ := DataW.trod_int Try.underlying2 f4
        simp only [List.cons.injEq, and_true] at e0 e1 e2 e3 e4
        subst e0 e1 e2 e3 e4
        exact ⟨⟨z0, z1, c2, xs, z3, z4⟩, fun j hj => hcell j hj, hs⟩
      obtain ⟨T, hTT⟩ := choose_lt (α := Tk) (p := fun i t => (∀ j, j < 5 → W.cell? ((a.add (i * 5)).add j) = t.cs[j]?) ∧ ShowsA W .u32 t.pv t.pl) hT
      obtain ⟨b, off, spot⟩ := a
      have hc0 := (hTT 0 (by omega)).1 0 (by omega)
      have hspot : spot = none := by simpa [Addr.add] using World.cell?_spot (v := .int .u32 (T 0).id) hc0
      subst hspot
      have hcs : ∀ i, i < len → ∀ j, j < 5 → W.cell? ⟨b, off + i * 5 + j, none⟩ = (T i).cs[j]? := fun i hi j hj => by
        have := (hTT i (by omega)).1 j hj
        rw [Addr.add_lit, Addr.add_lit] at this
        exact this
      have hlt : b < W.heap.size := cell_lt (v := .int .u32 (T 0).id) (hcs 0 hp 0 (by omega))
      have hg : ∀ i, i < len → ((List.range len).map T).getD i Tk.zero = T i := fun i hi => by simp [List.getD, hi]
      have hln : ((List.range len).map T).length = len := by simp
      refine ⟨_, (List.range len).map T, rfl, .inr ⟨b, off, m, by rw [hln], by rw [hln]; omega, hlt, ?_, ?_⟩⟩
      · rw [hln]
        exact ⟨hln, fun _ => hlt, fun i hi => by rw [hg i hi]; exact hcs i hi 0 (by omega), fun i hi => by rw [hg i hi]; exact hcs i hi 1 (by omega), fun i hi => by rw [hg i hi]; exact hcs i hi 2 (by omega), fun i hi => by rw [hg i hi]; exact hcs i hi 3 (by omega), fun i hi => by rw [hg i hi]; exact hcs i hi 4 (by omega)⟩
      · intro t ht
        obtain ⟨i, hi, rfl⟩ := List.mem_map.1 ht
        exact (hTT i (by have := List.mem_range.1 hi; omega)).2
set_option maxRecDepth 100000 in
theorem queueAgain_lifted (os : Os) (started : os.Started) (H : Type) (enc : TypeId × Value → H) :
    ReturnsInHanded {} Try.checked os 5 .any (Rows.queueAgainSpec.pre6 enc Try.prog Try.f5 Rows.queueAgainRow.domain false) (Rows.queueAgainSpec.post enc Try.prog Try.f5 false true false false) := by
  refine returnsInHanded_of_change (C := Try.checked) lawOwnKnob started (by kernel_rfl) Try.func5
    (ChangeSpec.witness6 (enc := enc) (C := Try.checked) false ⟨#[], #[.slice none 0 0, .int .u32 0], []⟩ 8 (by kernel_rfl) (by kernel_rfl) (by kernel_rfl) (by kernel_rfl)) ?_
  intro W base args ds gs before hval0 hW hcnd _
  have hval : ∀ (j : Nat) t v, Try.f5.params[j]? = some t → args[j]? = some v → Value.okWide Try.prog W .any base t v := hval0
  have hW' := hW
  obtain ⟨p, q, hA0, hV, rfl, hfz, hnd⟩ := hW
  have hA : DataW.TrodAll enc Try.prog W 0 (fun _ => true) true Try.f5.params.toList args.toList ds p := hA0
  rw [Try.params5] at hA hval
  obtain ⟨v0, vs0, d0, ds0, p0, q0, hargs, rfl, rfl, h0, r0⟩ := trodAll_cons hA
  obtain ⟨v1, vs1, d1, ds1, p1, q1, rfl, rfl, rfl, h1, r1⟩ := trodAll_cons r0
  obtain ⟨rfl, rfl, rfl⟩ := trodAll_nil r1
  obtain rfl : args = #[v0, v1] := by cases args; simp_all
  obtain ⟨rfl, rfl⟩ := trodVars_none hV
  have k0 := h0
  have lt0 : ∀ x ∈ p0, x.block < W.heap.size := by obtain ⟨m, hm⟩ := k0; exact DataW.trod_lt m _ _ _ hm
  obtain ⟨a0, len0, cap0, rfl⟩ := okWide_slice Try.underlying22 (hval 0 22 v0 rfl rfl)
  obtain ⟨ts, hargT⟩ : ∃ ts, ArgT W (.slice a0 len0 cap0) ts := by
    obtain ⟨fuel, hf⟩ := h0
    obtain ⟨v, ts, e, h⟩ := argT_of_trod hf
    have e' : Value.slice a0 len0 cap0 = v := by simpa [Value.cells] using e
    exact ⟨ts, by rw [e']; exact h⟩
  obtain ⟨a1, rfl, rfl, rfl, w1⟩ := open_int Try.underlying33 (hval 1 33 v1 rfl rfl) h1
  clear hA0 hval0
  refine (again_any _ ts a1 W hargT).mono fun e W' ⟨he, bel⟩ => ?_
  subst he
  exact ⟨_, rfl, _, _, _, [], _, [], hW', trodAll_mk1 (shut_bool Try.underlying4 _), (trodAll_cons_mk (Below.trod lawLaidOut (by kernel_rfl) (of_decide_eq_true (by kernel_rfl)) k0 bel lt0) (trodAll_cons_mk (shut_int Try.underlying33 w1) trodAll_mk0)), rfl, bel.frame _, fun h => by cases h⟩
theorem queueAgain_holds : Rows.QueueAgainSaid :=
  OpenClaim.holds_of_wide 5 Try.f5 rfl rfl rfl rfl rfl rfl rfl ⟨rfl, rfl, rfl, rfl, rfl⟩ rfl rfl rfl rfl rfl (by kernel_rfl) Try.func5 (by kernel_rfl)
    (of_decide_eq_true (by kernel_rfl)) (by unfold Func.isWrapper; first | (rw [if_pos (by decide +kernel)]; kernel_rfl) | (rw [if_neg (by decide +kernel)]; exact ⟨rfl, rfl⟩))
    (fun os started H enc _ => queueAgain_lifted os started H enc)
end Go.Proofs.Ytlkpmlcmgggifaa
