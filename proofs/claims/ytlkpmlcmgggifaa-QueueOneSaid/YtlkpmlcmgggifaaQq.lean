/- Are two rows of ids alike? -/
import Derived.Test.YtlkpmlcmgggifaaQp
set_option linter.unusedVariables false
set_option linter.unusedSimpArgs false
namespace Go.Proofs.Ytlkpmlcmgggifaa
open Go.RowKit
theorem Shows.blk {w : World} {k : IntKind} {v : Value} {xs : List Int} (h : Shows w k v xs) (hp : 0 < xs.length) : ∃ b off c, v = .slice (some ⟨b, off, none⟩) xs.length c ∧ xs.length ≤ maxLen ∧ b < w.heap.size ∧ ∀ j, j < xs.length → w.cell? ⟨b, off + j, none⟩ = some (.int k (xs.getD j 0)) := by
  rcases h with ⟨rfl, rfl⟩ | ⟨b, off, c, rfl, hlc, hm, hlt, hc⟩
  · simp at hp
  · exact ⟨b, off, c, rfl, Nat.le_trans hlc hm, hlt, hc⟩
theorem eq_of_getD {xs ys : List Int} (hl : xs.length = ys.length) (h : ∀ j, j < xs.length → xs.getD j 0 = ys.getD j 0) : xs = ys := by
  apply List.ext_getElem hl
  intro j h1 h2
  have := h j h1
  simpa [List.getD, h1, h2] using this
def SameRes (w w' : World) (xs ys : List Int) (e : Ending) : Prop := e = .returned (.bool (decide (xs = ys))) ∧ Below w.heap.size w w'
theorem same_no {w w' : World} {xs ys : List Int} (h : xs ≠ ys) (hb : Below w.heap.size w w') : SameRes w w' xs ys (.returned (.bool false)) := ⟨by simp [h], hb⟩
theorem same_yes {w w' : World} {xs ys : List Int} (h : xs = ys) (hb : Below w.heap.size w w') : SameRes w w' xs ys (.returned (.bool true)) := ⟨by simp [h], hb⟩
set_option maxHeartbeats 1600000 in
set_option maxRecDepth 100000 in
theorem same07 (va vb : Value) (xs ys : List Int) (w : World) (ha : ShowsA w .u32 va xs) (hb : ShowsA w .u32 vb ys) :
    Calls Try.prog 26 #[va, vb] w fun e w' => SameRes w w' xs ys e := by
  obtain ⟨m, hm⟩ : ∃ m, m = ys.length := ⟨_, rfl⟩
  obtain ⟨n, hn⟩ : ∃ n, n = xs.length := ⟨_, rfl⟩
  have HA := Lib.hid ha
  have HB := Lib.hid hb
  have HN := Lib.hid hn
  have HM := Lib.hid hm
  obtain ⟨A, ca, rfl⟩ := ha.form
  obtain ⟨B, cb, rfl⟩ := hb.form
  rw [← hn] at HA ⊢
  rw [← hm] at HB ⊢
  clear ha hb hn hm
  by_cases hnm : n = m
  · have hd : ((n : Int) != (m : Int)) = false := by simp [hnm]
    rcases Nat.eq_zero_or_pos n with h0 | hpos
    · have HE : Hid (xs = ys) := by
        show _ = _
        rw [List.eq_nil_of_length_eq_zero (HN.out.symm.trans h0), List.eq_nil_of_length_eq_zero (HM.out.symm.trans (hnm.symm.trans h0))]
      have h0' : m = 0 := by omega
      subst h0; subst h0'
      clear hnm hd
      go_enter Try.func26, Try.ntmps26
      go_wp2_with fail
      refine wp_loop_rounds 1 ?_; rw [rounds_succ]
      go_wp2
      go_ret
      exact same_yes HE.out (Below.refl _ _)
    · subst hnm
      obtain ⟨b1, o1, c1, e1, hmx, l1, k1⟩ := (HA.out.pos (by rw [← HN.out]; exact hpos)).blk (by rw [← HN.out]; exact hpos)
      obtain ⟨b2, o2, c2, e2, _, l2, k2⟩ := (HB.out.pos (by rw [← HM.out]; exact hpos)).blk (by rw [← HM.out]; exact hpos)
      rw [← HN.out] at e1 hmx k1
      rw [← HM.out] at e2 k2
      injection e1 with e1 _ e1c
      injection e2 with e2 _ e2c
      subst e1; subst e2
      have K1 := Lib.hid k1
      have K2 := Lib.hid k2
      unfold maxLen at hmx
      clear k1 k2 hd HA HB e1c e2c
      go_enter Try.func26, Try.ntmps26
      go_wp2_with fail
      go_loopw [5] (fun i W => ∃ k : Nat, k ≤ n ∧ i = .int .i64 k ∧ Hid (∀ j, j < k → xs.getD j 0 = ys.getD j 0) ∧ Hid (Below w.heap.size w W)) (fun i _ => n - (intOf i).toNat)
      case atStart => exact ⟨0, Nat.zero_le _, rfl, fun j hj => absurd hj (by omega), Below.refl _ _⟩
      case round =>
        obtain ⟨k, hk, rfl, HJ, HBW⟩ := hrel
        by_cases hlt : k < n
        · have hx := (HBW.out.cell (p := ⟨b1, o1 + k, none⟩) l1).trans (K1.out k hlt)
          have hy := (HBW.out.cell (p := ⟨b2, o2 + k, none⟩) l2).trans (K2.out k hlt)
          by_cases hxy : xs.getD k 0 = ys.getD k 0
          · have HJ2 : Hid (∀ j, j < k + 1 → xs.getD j 0 = ys.getD j 0) := fun j hj => by
              by_cases e : j = k
              · subst e; exact hxy
              · exact HJ.out j (by omega)
            rw [← hxy] at hy
            clear hxy HJ
            generalize xs.getD k 0 = y at hx hy
            go_wp2_with fail
            go_quiet (fail)
            have hbq := below_drewN HBW.out nq
            go_wp2
            go_roundw
            case rel => exact ⟨k + 1, by omega, by go_num, HJ2, hbq⟩
            case measure => simp [intOf]; omega
          · have HNE : Hid (xs ≠ ys) := fun e => hxy (by rw [e])
            have hd : (xs.getD k 0 != ys.getD k 0) = true := by simpa using hxy
            clear hxy HJ
            generalize xs.getD k 0 = y at hx hd
            generalize ys.getD k 0 = z at hy hd
            go_wp2_with fail
            go_quiet (fail)
            go_wp2
            go_ret
            exact same_no HNE.out (below_drewN HBW.out _)
        · have HE : Hid (xs = ys) := eq_of_getD (HN.out.symm.trans HM.out) (fun j hj => HJ.out j (by have := HN.out; omega))
          go_wp2
          go_ret
          exact same_yes HE.out HBW.out
  · have hd : ((n : Int) != (m : Int)) = true := by simpa using fun h => hnm (by omega)
    have HNE : Hid (xs ≠ ys) := fun e => hnm (by rw [HN.out, HM.out, e])
    clear hnm
    go_enter Try.func26, Try.ntmps26
    go_wp2
    go_ret
    exact same_no HNE.out (Below.refl _ _)
end Go.Proofs.Ytlkpmlcmgggifaa
