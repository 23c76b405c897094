/- Questions about numbers; who is doubled; a mode's tickets. -/
import Derived.Test.YtlkpmlcmgggifaaQe
set_option linter.unusedVariables false
set_option linter.unusedSimpArgs false
namespace Go.Proofs.Ytlkpmlcmgggifaa
open Go.RowKit
def rightB (x : Int) : Bool := decide (1 ≤ x ∧ x ≤ 2147483647)
theorem right_any (x : Int) (w : World) : Calls Try.prog 49 #[.int .u32 x] w fun e w' => e = .returned (.bool (rightB x)) ∧ w = w' := by
  by_cases h1 : 1 ≤ x
  · by_cases h2 : x ≤ 2147483647
    · rw [show rightB x = true by simp [rightB, h1, h2]]
      go_enter Try.func49, Try.ntmps49
      go_wp2
      go_ret
      exact ⟨by simp [h1, h2], rfl⟩
    · rw [show rightB x = false by simp [rightB, h1, h2]]
      go_enter Try.func49, Try.ntmps49
      go_wp2
      go_ret
      exact ⟨by simp [h1, h2], rfl⟩
  · rw [show rightB x = false by simp [rightB, h1]]
    go_enter Try.func49, Try.ntmps49
    go_wp2
    go_ret
    exact ⟨by simp [h1], rfl⟩
theorem notRight_any (x : Int) (w : World) : Calls Try.prog 51 #[.int .u32 x] w fun e w' => e = .returned (.bool (!rightB x)) ∧ w = w' := by
  go_enter Try.func51, Try.ntmps51
  have hnot : ∀ (x : Bool) (w : World), (Op.unary .not (.bool x)).run Try.prog w = .ok (.bool (!x)) w := fun _ _ => rfl
  generalize hr : rightB x = r
  have HR := Lib.hid hr
  clear hr
  go_wp2_with (go_at_call 49; refine (right_any _ _).mono ?_; rintro e w' ⟨rfl, rfl⟩; rw [HR.out])
  go_ret
  exact ⟨rfl, rfl⟩
set_option maxHeartbeats 800000 in
theorem indexFunc32 (p : Int → Bool) (g : Nat) (lb : Array Value) (eg : ∀ args w, (callFunc g args).run Try.prog w = .ok (.enter g args) w) (v : Value) (xs : List Int) (w : World) (hs : Shows w .u32 v xs)
    (hp : ∀ W x, Below w.heap.size w W → x ∈ xs → Calls Try.prog g (#[.int .u32 x] ++ lb) W fun e w' => e = .returned (.bool (p x)) ∧ Below w.heap.size w w') :
    Calls Try.prog 96 #[v, .func (.func g) #[] lb] w fun e w' => e = .returned (.int .i64 (idxBy p xs 0)) ∧ Below w.heap.size w w' := by
  rcases hs with ⟨rfl, rfl⟩ | ⟨b, off, c, rfl, hlc, hcm, hlt, hc⟩
  · clear hp
    go_enter Try.func96, Try.ntmps96
    go_wp2_with fail
    refine wp_loop_rounds 1 ?_; rw [rounds_succ]
    go_wp2
    go_ret
    exact ⟨rfl, Below.refl _ _⟩
  · have hm := Nat.le_trans hlc hcm
    clear hlc hcm
    obtain ⟨n, hn⟩ : ∃ n, n = xs.length := ⟨_, rfl⟩
    rw [← hn] at hm hc ⊢
    unfold maxLen at hm
    have HN := Lib.hid hn
    have HC := Lib.hid hc
    have HP := Lib.hid hp
    have HL := Lib.hid hlt
    clear hn hp hc hlt
    go_enter Try.func96, Try.ntmps96
    go_wp2
    go_loopw [8] (fun i W => ∃ k : Nat, k ≤ n ∧ i = .int .i64 k ∧ Hid (∀ j, j < k → p (xs.getD j 0) = false) ∧ Hid (Below w.heap.size w W)) (fun i _ => n - (intOf i).toNat)
    case atStart => exact ⟨0, Nat.zero_le _, rfl, fun j hj => absurd hj (by omega), Below.refl _ _⟩
    case round =>
      obtain ⟨k, hk, rfl, HM, HB⟩ := hrel
      by_cases hlt : k < n
      · have k0 := (HB.out.cell (p := ⟨b, off + k, none⟩) HL.out).trans (HC.out k hlt)
        have hcall := HP.out wr (xs.getD k 0) HB.out (getD_mem _ _ _ (by rw [← HN.out]; exact hlt))
        cases hq : p (xs.getD k 0) with
        | true =>
          have hfin := Lib.hid (idxBy_hit 0 p xs 0 k (by rw [← HN.out]; exact hlt) HM.out hq)
          rw [hq] at hcall
          clear hq HP
          generalize xs.getD k 0 = t at k0 hcall
          have HCL := Lib.hid hcall
          clear hcall
          go_wp2_with (go_at_fn g; refine HCL.out.mono ?_; rintro e w' ⟨rfl, hb'⟩)
          go_ret
          exact ⟨by rw [hfin.out]; simp, hb'⟩
        | false =>
          have hnext : Hid (∀ j, j < k + 1 → p (xs.getD j 0) = false) := fun j hj => by
            by_cases e : j = k
            · subst e; exact hq
            · exact HM.out j (by omega)
          rw [hq] at hcall
          clear hq HM HP
          generalize xs.getD k 0 = t at k0 hcall
          have HCL := Lib.hid hcall
          clear hcall
          go_wp2_with (go_at_fn g; refine HCL.out.mono ?_; rintro e w' ⟨rfl, hb'⟩)
          go_roundw
          case rel => exact ⟨k + 1, by omega, by go_num, hnext, hb'⟩
          case measure => simp [intOf]; omega
      · have hfin := Lib.hid (idxBy_miss 0 p xs 0 (fun j hj => HM.out j (by have := HN.out; omega)))
        have hge : ¬ ((k : Int) < (n : Int)) := by omega
        clear HP HM HC
        go_wp2
        go_ret
        exact ⟨by rw [hfin.out]; rfl, HB.out⟩
theorem idxBy_any {α : Type} (p : α → Bool) (xs : List α) : ∀ i, 0 ≤ i → decide (0 ≤ idxBy p xs i) = xs.any p := by
  induction xs with
  | nil => intro i hi; simp [idxBy]
  | cons y r ih =>
    intro i hi
    cases hy : p y with
    | true => simp [idxBy, hy, hi]
    | false => simpa [idxBy, hy] using ih (i + 1) (by omega)
theorem containsFunc32 (p : Int → Bool) (g : Nat) (lb : Array Value) (eg : ∀ args w, (callFunc g args).run Try.prog w = .ok (.enter g args) w) (v : Value) (xs : List Int) (w : World) (hs : Shows w .u32 v xs)
    (hp : ∀ W x, Below w.heap.size w W → x ∈ xs → Calls Try.prog g (#[.int .u32 x] ++ lb) W fun e w' => e = .returned (.bool (p x)) ∧ Below w.heap.size w w') :
    Calls Try.prog 50 #[v, .func (.func g) #[] lb] w fun e w' => e = .returned (.bool (xs.any p)) ∧ Below w.heap.size w w' := by
  rw [← idxBy_any p xs 0 (Int.le_refl 0)]
  have HS := Lib.hid hs
  have HP := Lib.hid hp
  clear hs hp
  generalize hr : idxBy p xs 0 = r
  have HR := Lib.hid hr
  clear hr
  go_enter Try.func50, Try.ntmps50
  go_wp2_with (go_at_call 96; refine (indexFunc32 p g lb eg _ _ _ HS.out HP.out).mono ?_; rintro e w' ⟨rfl, hb'⟩; rw [HR.out])
  go_ret
  exact ⟨rfl, hb'⟩
end Go.Proofs.Ytlkpmlcmgggifaa
