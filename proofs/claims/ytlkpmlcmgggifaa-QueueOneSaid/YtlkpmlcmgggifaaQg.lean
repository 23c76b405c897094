/- Who is doubled; a mode's tickets. -/
import Derived.Test.YtlkpmlcmgggifaaQf
set_option linter.unusedVariables false
set_option linter.unusedSimpArgs false
namespace Go.Proofs.Ytlkpmlcmgggifaa
open Go.RowKit
/-- The ticket in which a player is; 0. -/
def ofI (ts : List Tk) (x : Int) : Int := idOf (ts.find? (fun t => decide (x ∈ t.pl)))
def hitB (ts : List Tk) (pl : List Int) (k : Nat) : Bool := decide (pl.getD k 0 ∈ pl.take k) || ofI ts (pl.getD k 0) != 0
def doubledB (ts : List Tk) (pl : List Int) : Bool := (List.range pl.length).any (hitB ts pl)
theorem doubled_yes {ts : List Tk} {pl : List Int} {k : Nat} (hk : k < pl.length) (h : hitB ts pl k = true) : doubledB ts pl = true := by
  simp only [doubledB, List.any_eq_true, List.mem_range]; exact ⟨k, hk, h⟩
theorem doubled_no {ts : List Tk} {pl : List Int} (h : ∀ j, j < pl.length → hitB ts pl j = false) : doubledB ts pl = false := by
  rw [Bool.eq_false_iff]
  intro hc
  simp only [doubledB, List.any_eq_true, List.mem_range] at hc
  obtain ⟨k, hk, h1⟩ := hc
  rw [h k hk] at h1; cases h1
set_option maxHeartbeats 1600000 in
set_option maxRecDepth 100000 in
theorem doubled_any (base g : Nat) (va vs : Value) (ts : List Tk) (sizes : List Int) (v : Value) (pl : List Int) (w : World) (hq : QRep w base g va vs ts sizes) (hs : Shows w .u32 v pl) :
    Calls Try.prog 52 #[.pointer (some ⟨g, 0, none⟩), v] w fun e w' => e = .returned (.bool (doubledB ts pl)) ∧ Below w.heap.size w w' := by
  have HQ := Lib.hid hq
  clear hq
  rcases hs with ⟨rfl, rfl⟩ | ⟨b, off, c, rfl, hlc, hm, hlt, hc⟩
  · go_enter Try.func52, Try.ntmps52
    go_wp2_with fail
    refine wp_loop_rounds 1 ?_; rw [rounds_succ]
    go_wp2
    go_ret
    exact ⟨rfl, Below.refl _ _⟩
  · obtain ⟨n, hn⟩ : ∃ n, n = pl.length := ⟨_, rfl⟩
    rw [← hn] at hlc hc ⊢
    unfold maxLen at hm
    have HN := Lib.hid hn
    have HC := Lib.hid hc
    have HL := Lib.hid hlt
    have HMX := Lib.hid hm
    clear hn hc hlt
    go_enter Try.func52, Try.ntmps52
    go_wp2
    go_loopw [9] (fun i W => ∃ k : Nat, k ≤ n ∧ i = .int .i64 k ∧ Hid (∀ j, j < k → hitB ts pl j = false) ∧ Hid (Below w.heap.size w W)) (fun i _ => n - (intOf i).toNat)
    case atStart => exact ⟨0, Nat.zero_le _, rfl, fun j hj => absurd hj (by omega), Below.refl _ _⟩
    case round =>
      obtain ⟨k, hk, rfl, HM, HB⟩ := hrel
      by_cases hlt : k < n
      · have k0 := (HB.out.cell (p := ⟨b, off + k, none⟩) HL.out).trans (HC.out k hlt)
        have HS : Hid (Shows wr .u32 (.slice (some ⟨b, off, none⟩) k c) (pl.take k)) := .inr ⟨b, off, c, by rw [List.length_take, ← HN.out, Nat.min_eq_left hk], by rw [List.length_take]; have := HN.out; omega, by unfold maxLen; exact HMX.out, Nat.lt_of_lt_of_le HL.out HB.out.size, fun i hi => by
          rw [List.length_take] at hi
          rw [HB.out.cell (p := ⟨b, off + i, none⟩) HL.out, HC.out i (by omega)]
          simp [List.getD, List.getElem?_take, show i < k by omega]⟩
        have hfit : k ≤ c := by omega
        by_cases h1 : pl.getD k 0 ∈ pl.take k
        · have hfin := Lib.hid (doubled_yes (ts := ts) (by rw [← HN.out]; exact hlt) (show hitB ts pl k = true by simp only [hitB, h1, decide_true, Bool.true_or]))
          have hd : decide (pl.getD k 0 ∈ pl.take k) = true := by simpa using h1
          have HD := Lib.hid hd
          clear h1 hd
          generalize hx : pl.getD k 0 = x at k0
          have HX := Lib.hid hx
          clear hx
          go_wp2_with (go_at_call 62; refine (contains32 _ _ _ _ HS.out).mono ?_; rintro e w' ⟨rfl, rfl⟩; rw [← HX.out, HD.out])
          go_ret
          exact ⟨by rw [hfin.out]; rfl, HB.out⟩
        · have hd : decide (pl.getD k 0 ∈ pl.take k) = false := by simpa using h1
          have HD := Lib.hid hd
          have HE : Hid (hitB ts pl k = (ofI ts (pl.getD k 0) != 0)) := by show _ = _; simp only [hitB, hd, Bool.false_or]
          clear h1 hd
          generalize hx : pl.getD k 0 = x at k0
          have HX := Lib.hid hx
          clear hx
          cases ho : (ofI ts x != 0) with
          | true =>
            have hfin := Lib.hid (doubled_yes (ts := ts) (k := k) (pl := pl) (by rw [← HN.out]; exact hlt) (by rw [HE.out, HX.out, ho]))
            generalize hy : ofI ts x = y at ho
            have HY := Lib.hid hy
            clear hy
            go_wp2_with (first
              | (go_at_call 62; refine (contains32 _ _ _ _ HS.out).mono ?_; rintro e w' ⟨rfl, rfl⟩; rw [← HX.out, HD.out, HX.out])
              | (go_at_call 14; refine (of_some base g va vs ts sizes _ _ (HQ.out.below HB.out)).mono ?_; rintro e w' ⟨rfl, hb'⟩; rw [show idOf (ts.find? (fun t => decide (x ∈ t.pl))) = y from HY.out]; have HB2 := Lib.hid (HB.out.trans (hb'.mono HB.out.size)); clear hb'))
            go_ret
            exact ⟨by rw [hfin.out]; rfl, HB2.out⟩
          | false =>
            have hnext : Hid (∀ j, j < k + 1 → hitB ts pl j = false) := fun j hj => by
              by_cases e : j = k
              · subst e; rw [HE.out, HX.out, ho]
              · exact HM.out j (by omega)
            generalize hy : ofI ts x = y at ho
            have HY := Lib.hid hy
            clear hy
            go_wp2_with (first
              | (go_at_call 62; refine (contains32 _ _ _ _ HS.out).mono ?_; rintro e w' ⟨rfl, rfl⟩; rw [← HX.out, HD.out, HX.out])
              | (go_at_call 14; refine (of_some base g va vs ts sizes _ _ (HQ.out.below HB.out)).mono ?_; rintro e w' ⟨rfl, hb'⟩; rw [show idOf (ts.find? (fun t => decide (x ∈ t.pl))) = y from HY.out]; have HB2 := Lib.hid (HB.out.trans (hb'.mono HB.out.size)); clear hb'))
            go_roundw
            case rel => exact ⟨k + 1, by omega, by go_num, hnext, HB2.out⟩
            case measure => simp [intOf]; omega
      · have hfin := Lib.hid (doubled_no (ts := ts) (pl := pl) (fun j hj => HM.out j (by have := HN.out; omega)))
        have hge : ¬ ((k : Int) < (n : Int)) := by omega
        clear HM HC
        go_wp2
        go_ret
        exact ⟨by rw [hfin.out]; rfl, HB.out⟩
end Go.Proofs.Ytlkpmlcmgggifaa
