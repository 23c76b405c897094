/- Functions of the document as Lean functions, with their contracts: texts that the print tool printed for this seat, joined (what stands beside them was walked by hand). -/
import Derived.Test.YtlkpmlcmgggifaaXa
namespace Go.Proofs.Ytlkpmlcmgggifaa.PQueueRuns
open Go.RowKit Go.Proofs.YtlkpmlcmgggifaaW.PrintWords Go.Proofs.YtlkpmlcmgggifaaW.PrintLast Go.Proofs.YtlkpmlcmgggifaaW.PrintMore
attribute [local go_sem] max2_int min2_int max_two min_two max_three min_three max_four min_four   -- for this text's walks alone
set_option linter.unusedVariables false
set_option linter.unusedSimpArgs false

/-! ### tiltyardref17_Mode: function 67 -/
mutual
def tiltyardref17_Mode.l0 : Nat → List (S36) → Int → List (S36) → Int → Option ((List (S36)))
 | 0, _, _, _, _ => none
 | k + 1, x0, x1, x5, x6 => if x6 < (x0.length : Int) then (if 0 ≤ x6 then (if ((rd_T36 x0 x6).f1) = x1 then (tiltyardref17_Mode.l1 k x0 x1 x5 x6 (x5.length : Int)) else (tiltyardref17_Mode.l0 k x0 x1 x5 (wrap64 (x6 + 1)))) else (none)) else (some x5)
def tiltyardref17_Mode.l1 : Nat → List (S36) → Int → List (S36) → Int → Int → Option ((List (S36)))
 | 0, _, _, _, _, _ => none
 | k + 1, x0, x1, x5, x6, x7 => if x7 > 0 then (if 0 ≤ x6 then (if x6 < (x0.length : Int) then (if 0 ≤ (wrap64 (x7 - 1)) then (if (wrap64 (x7 - 1)) < (x5.length : Int) then ((tiltyardref17_ahead.f ((rd_T36 x0 x6).f0) ((rd_T36 x0 x6).f1) ((rd_T36 x0 x6).f2) ((rd_T36 x0 x6).f3) ((rd_T36 x0 x6).f4) ((rd_T36 x5 (wrap64 (x7 - 1))).f0) ((rd_T36 x5 (wrap64 (x7 - 1))).f1) ((rd_T36 x5 (wrap64 (x7 - 1))).f2) ((rd_T36 x5 (wrap64 (x7 - 1))).f3) ((rd_T36 x5 (wrap64 (x7 - 1))).f4)).bind fun t189 => (if t189 = true then (tiltyardref17_Mode.l1 k x0 x1 x5 x6 (wrap64 (x7 - 1))) else ((some (([(⟨(rd_T36 x0 x6).f0, (rd_T36 x0 x6).f1, (rd_T36 x0 x6).f2, (rd_T36 x0 x6).f3, (rd_T36 x0 x6).f4⟩ : S36)] : List (S36)) : List (S36))).bind fun y191 => (if 0 ≤ x7 then (if x7 ≤ (x5.length : Int) then ((some (x5.drop (x7 : Int).toNat : List (S36))).bind fun y194 => (if y191.length + y194.length < 2513169434916 then ((some (y191 ++ y194 : List (S36))).bind fun y199 => ((some (([] : List (S36)) : List (S36))).bind fun y202 => ((some (x5.take (x7 : Int).toNat : List (S36))).bind fun y205 => (if y202.length + y205.length < 2513169434916 then ((some (y202 ++ y205 : List (S36))).bind fun y210 => (if y210.length + y199.length < 2513169434916 then (tiltyardref17_Mode.l0 k x0 x1 (y210 ++ y199) (wrap64 (x6 + 1))) else (none))) else (none))))) else (none))) else (none)) else (none))))) else (none)) else (none)) else (none)) else (none)) else (if 0 ≤ x6 then (if x6 < (x0.length : Int) then ((some (([(⟨(rd_T36 x0 x6).f0, (rd_T36 x0 x6).f1, (rd_T36 x0 x6).f2, (rd_T36 x0 x6).f3, (rd_T36 x0 x6).f4⟩ : S36)] : List (S36)) : List (S36))).bind fun y217 => (if 0 ≤ x7 then (if x7 ≤ (x5.length : Int) then ((some (x5.drop (x7 : Int).toNat : List (S36))).bind fun y220 => (if y217.length + y220.length < 2513169434916 then ((some (y217 ++ y220 : List (S36))).bind fun y225 => ((some (([] : List (S36)) : List (S36))).bind fun y228 => ((some (x5.take (x7 : Int).toNat : List (S36))).bind fun y231 => (if y228.length + y231.length < 2513169434916 then ((some (y228 ++ y231 : List (S36))).bind fun y236 => (if y236.length + y225.length < 2513169434916 then (tiltyardref17_Mode.l0 k x0 x1 (y236 ++ y225) (wrap64 (x6 + 1))) else (none))) else (none))))) else (none))) else (none)) else (none))) else (none)) else (none))
end
def tiltyardref17_Mode.f (k : Nat) (l0 : List (S36)) (a1 : Int) : Option ((List (S36))) := tiltyardref17_Mode.l0 k l0 a1 ([] : List (S36)) 0
theorem tiltyardref17_Mode.mono_l : ∀ k, (∀ y0 y1 y2 y3, LeO (tiltyardref17_Mode.l0 k y0 y1 y2 y3) (tiltyardref17_Mode.l0 (k + 1) y0 y1 y2 y3)) ∧ (∀ y0 y1 y2 y3 y4, LeO (tiltyardref17_Mode.l1 k y0 y1 y2 y3 y4) (tiltyardref17_Mode.l1 (k + 1) y0 y1 y2 y3 y4))
 | 0 => ⟨fun _ _ _ _ r h => by simp [tiltyardref17_Mode.l0] at h, fun _ _ _ _ _ r h => by simp [tiltyardref17_Mode.l1] at h⟩
 | k + 1 => by
  obtain ⟨ih0, ih1⟩ := tiltyardref17_Mode.mono_l k
  refine ⟨?_, ?_⟩
  ·intro y0 y1 y2 y3
   unfold tiltyardref17_Mode.l0
   repeat' first
   | (with_reducible exact ih0 _ _ _ _)
   | (with_reducible exact ih1 _ _ _ _ _)
   | (with_reducible exact LeO.refl _)
   | (with_reducible exact LeO.none _)
   | (with_reducible refine LeO.ite ?_ ?_)
   | (with_reducible refine LeO.bind ?_ (fun _ => ?_))
   | exact ih0 _ _ _ _
   | exact ih1 _ _ _ _ _
   | exact LeO.none _
   | refine LeO.ite ?_ ?_
   | refine LeO.bind ?_ (fun _ => ?_)
  ·intro y0 y1 y2 y3 y4
   unfold tiltyardref17_Mode.l1
   repeat' first
   | (with_reducible exact ih0 _ _ _ _)
   | (with_reducible exact ih1 _ _ _ _ _)
   | (with_reducible exact LeO.refl _)
   | (with_reducible exact LeO.none _)
   | (with_reducible refine LeO.ite ?_ ?_)
   | (with_reducible refine LeO.bind ?_ (fun _ => ?_))
   | exact ih0 _ _ _ _
   | exact ih1 _ _ _ _ _
   | exact LeO.none _
   | refine LeO.ite ?_ ?_
   | refine LeO.bind ?_ (fun _ => ?_)
theorem tiltyardref17_Mode.mono : ∀ a0 a1 k, LeO (tiltyardref17_Mode.f k a0 a1) (tiltyardref17_Mode.f (k + 1) a0 a1) := by
 intro a0 a1 k
 obtain ⟨ih0, ih1⟩ := tiltyardref17_Mode.mono_l k
 unfold tiltyardref17_Mode.f
 repeat' first
   | (with_reducible exact ih0 _ _ _ _)
   | (with_reducible exact ih1 _ _ _ _ _)
   | (with_reducible exact LeO.refl _)
   | (with_reducible exact LeO.none _)
   | (with_reducible refine LeO.ite ?_ ?_)
   | (with_reducible refine LeO.bind ?_ (fun _ => ?_))
   | exact ih0 _ _ _ _
   | exact ih1 _ _ _ _ _
   | exact LeO.none _
   | refine LeO.ite ?_ ?_
   | refine LeO.bind ?_ (fun _ => ?_)
def tiltyardref17_Mode.T7 : Bool × List (List Nat × List Nat) := (true, [([], []), ([0], [0]), ([1], [1]), ([2], [2]), ([2], [2]), ([3, 4, 2], [2, 3, 4]), ([5, 2], [2, 5]), ([2], [2]), ([2], [2]), ([8, 2], [2, 8]), ([7, 9, 2], [2, 7, 9]), ([10, 2], [2, 10]), ([6, 11, 2, 2], [2, 6, 11]), ([2, 12], [2, 12])])
def tiltyardref17_Mode.B7 : List Nat := [0, 1, 3, 7, 7, 31, 63, 7, 7, 263, 903, 1927, 4095, 8191]
theorem tiltyardref17_Mode.tab7 : rtab .any (opsOf Try.f67 7) = tiltyardref17_Mode.T7 := by kernel_rfl
theorem tiltyardref17_Mode.bits7 : waitsOk tiltyardref17_Mode.T7.2 tiltyardref17_Mode.B7 = true := by kernel_rfl
def tiltyardref17_Mode.T9 : Bool × List (List Nat × List Nat) := (true, [([], []), ([], []), ([0, 1], [0, 1]), ([2], [2]), ([3], [3]), ([], []), ([], []), ([5, 6], [5, 6]), ([4, 7], [4, 7]), ([8, 8, 0, 1, 2, 3, 4, 5, 6, 7, 8], [8])])
def tiltyardref17_Mode.B9 : List Nat := [0, 0, 3, 7, 15, 0, 0, 96, 255, 511]
theorem tiltyardref17_Mode.tab9 : rtab .any (opsOf Try.f67 9) = tiltyardref17_Mode.T9 := by kernel_rfl
theorem tiltyardref17_Mode.bits9 : waitsOk tiltyardref17_Mode.T9.2 tiltyardref17_Mode.B9 = true := by kernel_rfl
set_option maxHeartbeats 8000000 in
set_option maxRecDepth 100000 in
theorem tiltyardref17_Mode.calls (k : Nat) (P0_ : Nat → Prop) (A0 : Option Addr) (c0 : Nat) (l0 : List (S36)) (a1 : Int) (r : List (S36)) (w : World) (hs0 : Kd.V k36 36 w w.heap.size (fun k_ => P0_ k_) (.slice A0 l0.length c0) l0) (h : tiltyardref17_Mode.f k l0 a1 = some r) :
  Calls Try.prog 67 #[.slice A0 l0.length c0, .int .i64 a1] w fun e w' => ∃ v0_ : Value, e = .returned (v0_) ∧ Kd.N k36 36 w' w.heap.size (fun k_ => (P0_ k_ ∨ w.heap.size ≤ k_)) v0_ r ∧ Below w.heap.size w w' := by
 have hu36 := Try.underlying36
 have HO0 := Aside0.mk (show Kd.V k36 36 w w.heap.size (fun k_ => (P0_ k_ ∨ w.heap.size ≤ k_)) (.slice A0 l0.length c0) l0 from Kd.V_mono hs0 (fun k_ hk => .inl hk))
 have HB := Aside0.mk (Below.refl w.heap.size w)
 have H : (tiltyardref17_Mode.l0 k l0 a1 ([] : List (S36)) 0) = some r := h
 clear h
 have H' := Aside0.mk H
 clear H
 go_enter Try.func67, Try.ntmps67
 go_wp2
 go_loopg [5, 6] k (fun kq v5 v6 w' => ∃ (x5_1 : List (S36)) (x6_1 : Int), v6 = .int .i64 x6_1 ∧ Aside0 (tiltyardref17_Mode.l0 kq l0 a1 x5_1 x6_1 = some r) ∧ Aside0 (kq ≤ k) ∧ Aside0 (Kd.V k36 36 w' w.heap.size (fun k_ => (P0_ k_ ∨ w.heap.size ≤ k_) ∧ some k_ ≠ (v5 : Value).ownBlock) (.slice A0 l0.length c0) l0) ∧ Aside0 (Kd.N k36 36 w' w.heap.size (fun k_ => (P0_ k_ ∨ w.heap.size ≤ k_)) v5 x5_1) ∧ Aside0 (Below w.heap.size w w'))
 case atStart => exact ⟨(([] : List (S36))), (0), (by first | rfl | (simp; done) | (simp [*]; done)), H', ⟨Nat.le_refl _⟩, ⟨by (with_reducible repeat (first | apply Kd.V_alloc | apply Kd.V_drewN | apply Kd.V_drew)); exact Kd.V_mono HO0.out (fun _ hk => ⟨hk, (by simp [Value.ownBlock])⟩)⟩, ⟨by first | exact Kd.S_nil _ _ _ _ _ | exact Kd.N_nil _ _ _ _ _ | exact Kd.V_nil _ _ _ _ _ | exact Kd.Q_nil _ _ _ _ _ | exact Kd.R_nil _ _ _ _ _⟩, ⟨by repeat (first | (with_reducible first | exact HB.out | apply below_alloc | apply pw_below_drewN | apply below_drew1) | exact HB.out)⟩⟩
 case round =>
  clear H'
  try clear p2
  obtain ⟨x5_1, x6_1, rfl, HA, HK1, HO_0, HO_5, HB⟩ := hrel
  cases gk with
  | zero => exact absurd HA.out (by simp [tiltyardref17_Mode.l0])
  | succ k1 =>
   have H := HA.out
   clear HA
   simp only [tiltyardref17_Mode.l0] at H
   by_cases c3 : x6_1 < (l0.length : Int)
   ·rw [if_pos c3] at H
    have c3b0 : decide (x6_1 < (l0.length : Int)) = true := decide_eq_true c3
    clear c3
    by_cases c4 : 0 ≤ x6_1
    ·rw [if_pos c4] at H
     have c4b0 : decide (0 ≤ x6_1) = true := decide_eq_true c4
     clear c4
     by_cases c5 : ((rd_T36 l0 x6_1).f1) = a1
     ·rw [if_pos c5] at H
      have c5b0 : (((rd_T36 l0 x6_1).f1) == a1) = true := beq_iff_eq.mpr c5
      have c5b1 : (((rd_T36 l0 x6_1).f1) != a1) = false := bne_eq_false_iff_eq.mpr c5
      clear c5
      have H' := Aside0.mk H
      clear H
      have p186 : 0 ≤ (x6_1 : Int) := of_decide_eq_true (by first | (with_reducible assumption) | assumption)
      have q186 : x6_1 < (l0.length : Int) := of_decide_eq_true (by first | (with_reducible assumption) | assumption)
      obtain ⟨ad186, A186_2, c186_2, e186, hx186_0, hx186_1, hx186_2, hx186_3, hx186_4, hl186_2, hi186_2⟩ := at_T36 (Kd.V_reads' HO_0.out).2.2 x6_1 p186 q186
      cases e186
      obtain ⟨ce186, hce186, hMe186, hcc186⟩ := Kd.V_get HO_0.out z36 x6_1 p186 (by first | exact q186 | exact of_decide_eq_true (by first | (with_reducible assumption) | assumption) | (have e_ := (Kd.V_reads' HO_0.out).1; omega))
      obtain ⟨ua186_2, uc186_2, rfl, ul186_2, ge186_2⟩ := k36_openF hMe186
      have hv186_2 := hcc186 2 _ rfl
      rw [add_field _ _ 2 (by omega)] at hv186_2
      replace hv186_2 := Option.some.inj (hv186_2.symm.trans hx186_2)
      injection hv186_2 with hva_ hvn_ hvc_
      rw [hva_] at ge186_2
      rw [hvc_] at ul186_2
      have HL186_2 := Aside0.mk (show Kd.V (Kd.int .u32) 33 _ w.heap.size _ _ ((rd_T36 l0 x6_1).f2) from Kd.V_mk ul186_2 ge186_2)
      clear hva_ hvn_ hvc_ ge186_2 ul186_2
      clear hcc186 hce186
      have HR186_2 := Aside0.mk hi186_2
      have HC186_2 := Aside0.mk hl186_2
      clear hi186_2 hl186_2
      replace p186 := eq_true p186
      replace q186 := eq_true q186
      obtain ⟨Ao6, co6, eo6⟩ := Kd.N_slice HO_5.out
      subst eo6
      go_wp2
      go_loopg [7] k1 (fun kq v7 w' => ∃ (x7_2 : Int), v7 = .int .i64 x7_2 ∧ Aside0 (tiltyardref17_Mode.l1 kq l0 a1 x5_1 x6_1 x7_2 = some r) ∧ Aside0 (kq ≤ k1) ∧ Aside0 (Kd.V k36 36 w' w.heap.size (fun k_ => (P0_ k_ ∨ w.heap.size ≤ k_) ∧ some k_ ≠ ((.slice Ao6 x5_1.length co6) : Value).ownBlock) (.slice (some ad186) l0.length c0) l0) ∧ Aside0 (Kd.N k36 36 w' w.heap.size (fun k_ => (P0_ k_ ∨ w.heap.size ≤ k_)) (.slice Ao6 x5_1.length co6) x5_1) ∧ Aside0 (Kd.C (Kd.int .u32) w' A186_2 ((rd_T36 l0 x6_1).f2).length ((rd_T36 l0 x6_1).f2)) ∧ Aside0 (Below w.heap.size w w'))
      case atStart => exact ⟨((x5_1.length : Int)), (by first | rfl | (simp; done) | (simp [*]; done)), H', ⟨Nat.le_refl _⟩, ⟨by (with_reducible repeat (first | apply Kd.V_alloc | apply Kd.V_drewN | apply Kd.V_drew)); exact HO_0.out⟩, ⟨by (with_reducible repeat (first | apply Kd.N_alloc | apply Kd.N_drewN | apply Kd.N_drew)); exact HO_5.out⟩, ⟨by repeat (first | (with_reducible exact HR186_2.out) | (with_reducible refine Kd.C_alloc ?_ _) | (with_reducible refine Kd.C_drewN ?_ _) | (with_reducible refine Kd.C_drew ?_) | exact HR186_2.out)⟩, ⟨by repeat (first | (with_reducible first | exact HB.out | apply below_alloc | apply pw_below_drewN | apply below_drew1) | exact HB.out)⟩⟩
      case round =>
       clear H'
       try clear c1
       try clear p1
       try clear q1
       try clear hx1
       try clear p2
       try clear c3
       try clear c3b0
       try clear c4
       try clear c4b0
       try clear c5
       try clear c5b0
       try clear c5b1
       try clear c6
       try clear hx186_0
       try clear hx186_1
       try clear hx186_2
       try clear hx186_3
       try clear hx186_4
       try clear p186
       try clear p2
       try clear q186
       obtain ⟨x7_2, rfl, HA, HK2, HO_0, HO_5, HR186_2, HB⟩ := hrel
       cases gk with
       | zero => exact absurd HA.out (by simp [tiltyardref17_Mode.l1])
       | succ k2 =>
        have H := HA.out
        clear HA
        simp only [tiltyardref17_Mode.l1] at H
        by_cases c7 : x7_2 > 0
        ·rw [if_pos c7] at H
         have c7b0 : decide (0 < x7_2) = true := decide_eq_true c7
         clear c7
         by_cases c8 : 0 ≤ x6_1
         ·rw [if_pos c8] at H
          have c8b0 : decide (0 ≤ x6_1) = true := decide_eq_true c8
          clear c8
          by_cases c9 : x6_1 < (l0.length : Int)
          ·rw [if_pos c9] at H
           have c9b0 : decide (x6_1 < (l0.length : Int)) = true := decide_eq_true c9
           clear c9
           obtain ⟨ji10, hji10⟩ : ∃ j_ : Int, (wrap64 (x7_2 - 1)) = j_ := ⟨_, rfl⟩
           replace H : (if 0 ≤ (ji10) then (if (ji10) < (x5_1.length : Int) then ((tiltyardref17_ahead.f ((rd_T36 l0 x6_1).f0) ((rd_T36 l0 x6_1).f1) ((rd_T36 l0 x6_1).f2) ((rd_T36 l0 x6_1).f3) ((rd_T36 l0 x6_1).f4) ((rd_T36 x5_1 (ji10)).f0) ((rd_T36 x5_1 (ji10)).f1) ((rd_T36 x5_1 (ji10)).f2) ((rd_T36 x5_1 (ji10)).f3) ((rd_T36 x5_1 (ji10)).f4)).bind fun t189 => (if t189 = true then (tiltyardref17_Mode.l1 k2 l0 a1 x5_1 x6_1 ji10) else ((some (([(⟨(rd_T36 l0 x6_1).f0, (rd_T36 l0 x6_1).f1, (rd_T36 l0 x6_1).f2, (rd_T36 l0 x6_1).f3, (rd_T36 l0 x6_1).f4⟩ : S36)] : List (S36)) : List (S36))).bind fun y191 => (if 0 ≤ x7_2 then (if x7_2 ≤ (x5_1.length : Int) then ((some (x5_1.drop (x7_2 : Int).toNat : List (S36))).bind fun y194 => (if y191.length + y194.length < 2513169434916 then ((some (y191 ++ y194 : List (S36))).bind fun y199 => ((some (([] : List (S36)) : List (S36))).bind fun y202 => ((some (x5_1.take (x7_2 : Int).toNat : List (S36))).bind fun y205 => (if y202.length + y205.length < 2513169434916 then ((some (y202 ++ y205 : List (S36))).bind fun y210 => (if y210.length + y199.length < 2513169434916 then (tiltyardref17_Mode.l0 k2 l0 a1 (y210 ++ y199) (wrap64 (x6_1 + 1))) else (none))) else (none))))) else (none))) else (none)) else (none))))) else (none)) else (none)) = some r := by first | (rw [hji10] at H; exact H) | (simp only [hji10] at H ⊢; exact H)
           have hji10w : (IntKind.i64.wrap (x7_2 - 1)) = ji10 := (i64_w _).trans hji10
           by_cases c11 : 0 ≤ (ji10)
           ·rw [if_pos c11] at H
            have c11b0 : decide (0 ≤ (ji10)) = true := decide_eq_true c11
            clear c11
            by_cases c12 : (ji10) < (x5_1.length : Int)
            ·rw [if_pos c12] at H
             have c12b0 : decide ((ji10) < (x5_1.length : Int)) = true := decide_eq_true c12
             clear c12
             replace H := Option.bind_eq_some_iff.mp H
             obtain ⟨t189, A130, H⟩ := H
             replace H : (if t189 = true then (tiltyardref17_Mode.l1 k2 l0 a1 x5_1 x6_1 ji10) else ((some (([(⟨(rd_T36 l0 x6_1).f0, (rd_T36 l0 x6_1).f1, (rd_T36 l0 x6_1).f2, (rd_T36 l0 x6_1).f3, (rd_T36 l0 x6_1).f4⟩ : S36)] : List (S36)) : List (S36))).bind fun y191 => (if 0 ≤ x7_2 then (if x7_2 ≤ (x5_1.length : Int) then ((some (x5_1.drop (x7_2 : Int).toNat : List (S36))).bind fun y194 => (if y191.length + y194.length < 2513169434916 then ((some (y191 ++ y194 : List (S36))).bind fun y199 => ((some (([] : List (S36)) : List (S36))).bind fun y202 => ((some (x5_1.take (x7_2 : Int).toNat : List (S36))).bind fun y205 => (if y202.length + y205.length < 2513169434916 then ((some (y202 ++ y205 : List (S36))).bind fun y210 => (if y210.length + y199.length < 2513169434916 then (tiltyardref17_Mode.l0 k2 l0 a1 (y210 ++ y199) (wrap64 (x6_1 + 1))) else (none))) else (none))))) else (none))) else (none)) else (none)))) = some r := H
             have A13 := Aside0.mk A130
             clear A130
             by_cases c14 : t189 = true
             ·subst c14
              have H1 : (tiltyardref17_Mode.l1 k2 l0 a1 x5_1 x6_1 ji10) = some r := by rw [if_pos rfl] at H; exact H
              clear H
              have H := H1
              clear H1
              have H' := Aside0.mk H
              clear H
              try go_wp2
              have n0_ := Aside0.mk (Kd.V_drew HO_0.out)
              have n1_ := Aside0.mk (Kd.N_drew HO_5.out)
              have n2_ := Aside0.mk (Kd.C_drew HR186_2.out)
              have n3_ := Aside0.mk (below_drew1 HB.out)
              clear HO_0
              clear HO_5
              clear HR186_2
              clear HB
              have HO_0 := n0_
              have HO_5 := n1_
              have HR186_2 := n2_
              have HB := n3_
              clear n0_ n1_ n2_ n3_
              have p187 : 0 ≤ (x6_1 : Int) := of_decide_eq_true (by first | (with_reducible assumption) | assumption)
              have q187 : x6_1 < (l0.length : Int) := of_decide_eq_true (by first | (with_reducible assumption) | assumption)
              obtain ⟨ad187, A187_2, c187_2, e187, hx187_0, hx187_1, hx187_2, hx187_3, hx187_4, hl187_2, hi187_2⟩ := at_T36 (Kd.V_reads' HO_0.out).2.2 x6_1 p187 q187
              obtain rfl : ad186 = ad187 := (by injection e187)
              obtain ⟨ce187, hce187, hMe187, hcc187⟩ := Kd.V_get HO_0.out z36 x6_1 p187 (by first | exact q187 | exact of_decide_eq_true (by first | (with_reducible assumption) | assumption) | (have e_ := (Kd.V_reads' HO_0.out).1; omega))
              obtain ⟨ua187_2, uc187_2, rfl, ul187_2, ge187_2⟩ := k36_openF hMe187
              have hv187_2 := hcc187 2 _ rfl
              rw [add_field _ _ 2 (by omega)] at hv187_2
              replace hv187_2 := Option.some.inj (hv187_2.symm.trans hx187_2)
              injection hv187_2 with hva_ hvn_ hvc_
              rw [hva_] at ge187_2
              rw [hvc_] at ul187_2
              have HL187_2 := Aside0.mk (show Kd.V (Kd.int .u32) 33 _ w.heap.size _ _ ((rd_T36 l0 x6_1).f2) from Kd.V_mk ul187_2 ge187_2)
              clear hva_ hvn_ hvc_ ge187_2 ul187_2
              clear hcc187 hce187
              have HR187_2 := Aside0.mk hi187_2
              have HC187_2 := Aside0.mk hl187_2
              clear hi187_2 hl187_2
              replace p187 := eq_true p187
              replace q187 := eq_true q187
              have p188 : 0 ≤ ((ji10) : Int) := of_decide_eq_true (by first | (with_reducible assumption) | assumption)
              have q188 : (ji10) < (x5_1.length : Int) := of_decide_eq_true (by first | (with_reducible assumption) | assumption)
              obtain ⟨ad188, A188_2, c188_2, e188, hx188_0, hx188_1, hx188_2, hx188_3, hx188_4, hl188_2, hi188_2⟩ := at_T36 (Kd.N_reads' HO_5.out).2.2 (ji10) p188 q188
              cases e188
              obtain ⟨ce188, hce188, hMe188, hcc188⟩ := Kd.N_get HO_5.out z36 (ji10) p188 (by first | exact q188 | exact of_decide_eq_true (by first | (with_reducible assumption) | assumption) | (have e_ := (Kd.N_reads' HO_5.out).1; omega))
              obtain ⟨ua188_2, uc188_2, rfl, ul188_2, ge188_2⟩ := k36_openF hMe188
              have hv188_2 := hcc188 2 _ rfl
              rw [add_field _ _ 2 (by omega)] at hv188_2
              replace hv188_2 := Option.some.inj (hv188_2.symm.trans hx188_2)
              injection hv188_2 with hva_ hvn_ hvc_
              rw [hva_] at ge188_2
              rw [hvc_] at ul188_2
              have HL188_2 := Aside0.mk (show Kd.V (Kd.int .u32) 33 _ w.heap.size _ _ ((rd_T36 x5_1 (ji10)).f2) from Kd.V_mk ul188_2 ge188_2)
              clear hva_ hvn_ hvc_ ge188_2 ul188_2
              clear hcc188 hce188
              have HR188_2 := Aside0.mk hi188_2
              have HC188_2 := Aside0.mk hl188_2
              clear hi188_2 hl188_2
              replace p188 := eq_true p188
              replace q188 := eq_true q188
              refine start_ (n := 14) (S := fun w' => w'.cell? (ad186.add ((x6_1).toNat * 5)) = some (.int .u32 ((rd_T36 l0 x6_1).f0)) ∧ w'.cell? ⟨(ad186.add ((x6_1).toNat * 5)).block, (ad186.add ((x6_1).toNat * 5)).off + 1, none⟩ = some (.int .i64 ((rd_T36 l0 x6_1).f1)) ∧ w'.cell? ⟨(ad186.add ((x6_1).toNat * 5)).block, (ad186.add ((x6_1).toNat * 5)).off + 2, none⟩ = some (.slice A187_2 ((rd_T36 l0 x6_1).f2).length c187_2) ∧ w'.cell? ⟨(ad186.add ((x6_1).toNat * 5)).block, (ad186.add ((x6_1).toNat * 5)).off + 3, none⟩ = some (.int .i64 ((rd_T36 l0 x6_1).f3)) ∧ w'.cell? ⟨(ad186.add ((x6_1).toNat * 5)).block, (ad186.add ((x6_1).toNat * 5)).off + 4, none⟩ = some (.int .i64 ((rd_T36 l0 x6_1).f4)) ∧ w'.cell? (ad188.add (((ji10)).toNat * 5)) = some (.int .u32 ((rd_T36 x5_1 (ji10)).f0)) ∧ w'.cell? ⟨(ad188.add (((ji10)).toNat * 5)).block, (ad188.add (((ji10)).toNat * 5)).off + 1, none⟩ = some (.int .i64 ((rd_T36 x5_1 (ji10)).f1)) ∧ w'.cell? ⟨(ad188.add (((ji10)).toNat * 5)).block, (ad188.add (((ji10)).toNat * 5)).off + 2, none⟩ = some (.slice A188_2 ((rd_T36 x5_1 (ji10)).f2).length c188_2) ∧ w'.cell? ⟨(ad188.add (((ji10)).toNat * 5)).block, (ad188.add (((ji10)).toNat * 5)).off + 3, none⟩ = some (.int .i64 ((rd_T36 x5_1 (ji10)).f3)) ∧ w'.cell? ⟨(ad188.add (((ji10)).toNat * 5)).block, (ad188.add (((ji10)).toNat * 5)).off + 4, none⟩ = some (.int .i64 ((rd_T36 x5_1 (ji10)).f4))) (ds := []) #[false, false, false, false, false, false, false, false, false, false, false, false, false, false] (by kernel_rfl) rfl rfl ⟨hx187_0, hx187_1, hx187_2, hx187_3, hx187_4, hx188_0, hx188_1, hx188_2, hx188_3, hx188_4⟩ (fun hHeld => ?_); refine with_tabW tiltyardref17_Mode.tab7 tiltyardref17_Mode.bits7 (fun HT_ HW_ => ?_)
              generalize wr.drew = w15 at HO_0 HO_5 HR186_2 HB HL187_2 HL188_2 HR187_2 HR188_2 hx187_0 hx187_1 hx187_2 hx187_3 hx187_4 hx188_0 hx188_1 hx188_2 hx188_3 hx188_4 hHeld ⊢
              refine pure_ (i := 0) (N := some 24) (v := ?_) (a' := ?_) #[true, false, false, false, false, false, false, false, false, false, false, false, false, false] rfl rfl (any_of HT_.out (by kernel_rfl)) (fun _ _ _ h => h) (Or.inl ⟨by rfl, ?_⟩) ?_ ?_
              rotate_left
              ·intro w'
               go_simp
               with_reducible rfl
              rotate_left
              ·simp only [Act.put, List.setIfInBounds_toArray, List.set_cons_zero, List.set_cons_succ, i64_w, i32_w]
               rfl
              refine pure_ (i := 1) (N := some 25) (v := ?_) (a' := ?_) #[true, true, false, false, false, false, false, false, false, false, false, false, false, false] rfl rfl (any_of HT_.out (by kernel_rfl)) (fun _ _ _ h => h) (Or.inl ⟨by rfl, ?_⟩) ?_ ?_
              rotate_left
              ·intro w'
               go_simp
               with_reducible rfl
              rotate_left
              ·simp only [Act.put, List.setIfInBounds_toArray, List.set_cons_zero, List.set_cons_succ, i64_w, i32_w]
               rfl
              refine pure_ (i := 2) (N := some 26) (v := ?_) (a' := ?_) #[true, true, true, false, false, false, false, false, false, false, false, false, false, false] rfl rfl (any_of HT_.out (by kernel_rfl)) (fun _ _ _ h => h) (Or.inl ⟨by rfl, ?_⟩) ?_ ?_
              rotate_left
              ·intro w'
               go_simp
               with_reducible rfl
              rotate_left
              ·simp only [Act.put, List.setIfInBounds_toArray, List.set_cons_zero, List.set_cons_succ, i64_w, i32_w]
               rfl
              refine pure_ (i := 3) (N := some 27) (v := ?_) (a' := ?_) #[true, true, true, true, false, false, false, false, false, false, false, false, false, false] rfl rfl (any_of HT_.out (by kernel_rfl)) (fun _ _ _ h => h) (Or.inl ⟨by rfl, ?_⟩) ?_ ?_
              rotate_left
              ·intro w'
               go_simp
               with_reducible rfl
              rotate_left
              ·simp only [Act.put, List.setIfInBounds_toArray, List.set_cons_zero, List.set_cons_succ, i64_w, i32_w]
               rfl
              refine pure_ (i := 4) (N := some 28) (v := ?_) (a' := ?_) #[true, true, true, true, true, false, false, false, false, false, false, false, false, false] rfl rfl (any_of HT_.out (by kernel_rfl)) (fun _ _ _ h => h) (Or.inl ⟨by rfl, ?_⟩) ?_ ?_
              rotate_left
              ·intro w'
               go_simp
               with_reducible rfl
              rotate_left
              ·simp only [Act.put, List.setIfInBounds_toArray, List.set_cons_zero, List.set_cons_succ, i64_w, i32_w]
               rfl
              refine pure_ (i := 5) (N := some 29) (v := ?_) (a' := ?_) #[true, true, true, true, true, true, false, false, false, false, false, false, false, false] rfl rfl (any_of HT_.out (by kernel_rfl)) (fun _ _ _ h => h) (Or.inl ⟨by rfl, ?_⟩) ?_ ?_
              rotate_left
              ·intro w'
               go_simp
               with_reducible rfl
              rotate_left
              ·simp only [Act.put, List.setIfInBounds_toArray, List.set_cons_zero, List.set_cons_succ, i64_w, i32_w]
               rfl
              refine pure_ (i := 7) (N := some 31) (v := ?_) (a' := ?_) #[true, true, true, true, true, true, false, true, false, false, false, false, false, false] rfl rfl (any_of HT_.out (by kernel_rfl)) (fun _ _ _ h => h) (Or.inl ⟨by rfl, ?_⟩) ?_ ?_
              rotate_left
              ·intro w'
               go_simp
               with_reducible rfl
              rotate_left
              ·simp only [Act.put, List.setIfInBounds_toArray, List.set_cons_zero, List.set_cons_succ, i64_w, i32_w]
               rfl
              refine pure_ (i := 8) (N := some 32) (v := ?_) (a' := ?_) #[true, true, true, true, true, true, false, true, true, false, false, false, false, false] rfl rfl (any_of HT_.out (by kernel_rfl)) (fun _ _ _ h => h) (Or.inl ⟨by rfl, ?_⟩) ?_ ?_
              rotate_left
              ·intro w'
               go_simp
               with_reducible rfl
              rotate_left
              ·simp only [Act.put, List.setIfInBounds_toArray, List.set_cons_zero, List.set_cons_succ, i64_w, i32_w]
               rfl
              refine pure_ (i := 9) (N := some 33) (v := ?_) (a' := ?_) #[true, true, true, true, true, true, false, true, true, true, false, false, false, false] rfl rfl (any_of HT_.out (by kernel_rfl)) (fun _ _ _ h => h) (Or.inl ⟨by rfl, ?_⟩) ?_ ?_
              rotate_left
              ·intro w'
               go_simp
               with_reducible rfl
              rotate_left
              ·simp only [Act.put, List.setIfInBounds_toArray, List.set_cons_zero, List.set_cons_succ, i64_w, i32_w]
               rfl
              refine pure_ (i := 10) (N := some 34) (v := ?_) (a' := ?_) #[true, true, true, true, true, true, false, true, true, true, true, false, false, false] rfl rfl (any_of HT_.out (by kernel_rfl)) (fun _ _ _ h => h) (Or.inl ⟨by rfl, ?_⟩) ?_ ?_
              rotate_left
              ·intro w'
               go_simp
               with_reducible rfl
              rotate_left
              ·simp only [Act.put, List.setIfInBounds_toArray, List.set_cons_zero, List.set_cons_succ, i64_w, i32_w]
               rfl
              refine take_ (i := 6) (N := some 30) (v := ?_) (a' := ?_) #[true, true, true, true, true, true, true, true, true, true, true, false, false, false] rfl rfl (take_ofW HT_.out HW_.out (by kernel_rfl)) (fun _ _ _ h => h) (Or.inl ⟨by rfl, ?_⟩) hHeld ?_ ?_
              rotate_left
              ·rintro w' ⟨s0, s1, s2, s3, s4, s5, s6, s7, s8, s9⟩
               go_simp
               with_reducible rfl
              rotate_left
              ·simp only [Act.put, List.setIfInBounds_toArray, List.set_cons_zero, List.set_cons_succ, i64_w, i32_w]
               rfl
              refine take_ (i := 11) (N := some 35) (v := ?_) (a' := ?_) #[true, true, true, true, true, true, true, true, true, true, true, true, false, false] rfl rfl (take_ofW HT_.out HW_.out (by kernel_rfl)) (fun _ _ _ h => h) (Or.inl ⟨by rfl, ?_⟩) hHeld ?_ ?_
              rotate_left
              ·rintro w' ⟨s0, s1, s2, s3, s4, s5, s6, s7, s8, s9⟩
               go_simp
               with_reducible rfl
              rotate_left
              ·simp only [Act.put, List.setIfInBounds_toArray, List.set_cons_zero, List.set_cons_succ, i64_w, i32_w]
               rfl
              refine one_ (i := 12) (N := some 36) #[true, true, true, true, true, true, true, true, true, true, true, true, true, false] rfl rfl (one_of HT_.out (by kernel_rfl)) (by decide) (fun K hK => ?_)
              refine goes_ Try.func104 (by kernel_rfl) rfl #[.agg #[.int .u32 ((rd_T36 l0 x6_1).f0), .int .i64 ((rd_T36 l0 x6_1).f1), .slice A187_2 ((rd_T36 l0 x6_1).f2).length c187_2, .int .i64 ((rd_T36 l0 x6_1).f3), .int .i64 ((rd_T36 l0 x6_1).f4)], .agg #[.int .u32 ((rd_T36 x5_1 (ji10)).f0), .int .i64 ((rd_T36 x5_1 (ji10)).f1), .slice A188_2 ((rd_T36 x5_1 (ji10)).f2).length c188_2, .int .i64 ((rd_T36 x5_1 (ji10)).f3), .int .i64 ((rd_T36 x5_1 (ji10)).f4)]] (by rfl) rfl rfl (by (try simp only [List.map_toArray, List.map_cons, List.map_nil]); first | done | (simp only [hji10]; rfl) | rfl | (simp only [List.length_drop, List.length_take]; rfl)) ?_
              with_reducible refine (tiltyardref17_ahead.calls ((rd_T36 l0 x6_1).f0) ((rd_T36 l0 x6_1).f1) _ _ ((rd_T36 l0 x6_1).f2) ((rd_T36 l0 x6_1).f3) ((rd_T36 l0 x6_1).f4) ((rd_T36 x5_1 (ji10)).f0) ((rd_T36 x5_1 (ji10)).f1) _ _ ((rd_T36 x5_1 (ji10)).f2) ((rd_T36 x5_1 (ji10)).f3) ((rd_T36 x5_1 (ji10)).f4) true _ ?side1 ?side2 ?side3 ?side4 A13.out).mono ?_
              (case side1 => repeat (first | exact (by repeat (first | (with_reducible exact HR187_2.out) | (with_reducible refine Kd.C_alloc ?_ _) | (with_reducible refine Kd.C_drewN ?_ _) | (with_reducible refine Kd.C_drew ?_) | exact HR187_2.out)) | (with_reducible refine Kd.C_alloc ?_ _) | (with_reducible refine Kd.C_drewN ?_ _) | (with_reducible refine Kd.C_drew ?_)))
              (case side2 => exact HC187_2.out)
              (case side3 => repeat (first | exact (by repeat (first | (with_reducible exact HR188_2.out) | (with_reducible refine Kd.C_alloc ?_ _) | (with_reducible refine Kd.C_drewN ?_ _) | (with_reducible refine Kd.C_drew ?_) | exact HR188_2.out)) | (with_reducible refine Kd.C_alloc ?_ _) | (with_reducible refine Kd.C_drewN ?_ _) | (with_reducible refine Kd.C_drew ?_)))
              (case side4 => exact HC188_2.out)
              rintro e w16 ⟨rfl, hb⟩
              have HS0_ := (hb.cell (World.block_lt_of_cell? _ _ (hHeld.1))).trans (hHeld.1)
              have HS1_ := (hb.cell (World.block_lt_of_cell? _ _ (hHeld.2.1))).trans (hHeld.2.1)
              have HS2_ := (hb.cell (World.block_lt_of_cell? _ _ (hHeld.2.2.1))).trans (hHeld.2.2.1)
              have HS3_ := (hb.cell (World.block_lt_of_cell? _ _ (hHeld.2.2.2.1))).trans (hHeld.2.2.2.1)
              have HS4_ := (hb.cell (World.block_lt_of_cell? _ _ (hHeld.2.2.2.2.1))).trans (hHeld.2.2.2.2.1)
              have HS5_ := (hb.cell (World.block_lt_of_cell? _ _ (hHeld.2.2.2.2.2.1))).trans (hHeld.2.2.2.2.2.1)
              have HS6_ := (hb.cell (World.block_lt_of_cell? _ _ (hHeld.2.2.2.2.2.2.1))).trans (hHeld.2.2.2.2.2.2.1)
              have HS7_ := (hb.cell (World.block_lt_of_cell? _ _ (hHeld.2.2.2.2.2.2.2.1))).trans (hHeld.2.2.2.2.2.2.2.1)
              have HS8_ := (hb.cell (World.block_lt_of_cell? _ _ (hHeld.2.2.2.2.2.2.2.2.1))).trans (hHeld.2.2.2.2.2.2.2.2.1)
              have HS9_ := (hb.cell (World.block_lt_of_cell? _ _ (hHeld.2.2.2.2.2.2.2.2.2))).trans (hHeld.2.2.2.2.2.2.2.2.2)
              refine ⟨_, rfl, ?_⟩
              have n0_ := Aside0.mk (Kd.V_below (by (with_reducible repeat (first | apply Kd.V_alloc | apply Kd.V_drewN | apply Kd.V_drew)); exact HO_0.out) hb)
              have n1_ := Aside0.mk (Kd.N_below (by (with_reducible repeat (first | apply Kd.N_alloc | apply Kd.N_drewN | apply Kd.N_drew)); exact HO_5.out) hb)
              have n2_ := Aside0.mk (Kd.V_below (by (with_reducible repeat (first | apply Kd.V_alloc | apply Kd.V_drewN | apply Kd.V_drew)); exact HL187_2.out) hb)
              have n3_ := Aside0.mk (Kd.V_below (by (with_reducible repeat (first | apply Kd.V_alloc | apply Kd.V_drewN | apply Kd.V_drew)); exact HL188_2.out) hb)
              have n4_ := Aside0.mk (Kd.C_below (by repeat (first | (with_reducible exact HR186_2.out) | (with_reducible refine Kd.C_alloc ?_ _) | (with_reducible refine Kd.C_drewN ?_ _) | (with_reducible refine Kd.C_drew ?_) | exact HR186_2.out)) hb)
              have n5_ := Aside0.mk (Kd.C_below (by repeat (first | (with_reducible exact HR187_2.out) | (with_reducible refine Kd.C_alloc ?_ _) | (with_reducible refine Kd.C_drewN ?_ _) | (with_reducible refine Kd.C_drew ?_) | exact HR187_2.out)) hb)
              have n6_ := Aside0.mk (Kd.C_below (by repeat (first | (with_reducible exact HR188_2.out) | (with_reducible refine Kd.C_alloc ?_ _) | (with_reducible refine Kd.C_drewN ?_ _) | (with_reducible refine Kd.C_drew ?_) | exact HR188_2.out)) hb)
              have n7_ := Aside0.mk (below_step (by repeat (first | (with_reducible first | exact HB.out | apply below_alloc | apply pw_below_drewN | apply below_drew1) | exact HB.out)) hb)
              clear HO_0
              clear HO_5
              clear HL187_2
              clear HL188_2
              clear HR186_2
              clear HR187_2
              clear HR188_2
              clear HB
              have HO_0 := n0_
              have HO_5 := n1_
              have HL187_2 := n2_
              have HL188_2 := n3_
              have HR186_2 := n4_
              have HR187_2 := n5_
              have HR188_2 := n6_
              have HB := n7_
              clear n0_ n1_ n2_ n3_ n4_ n5_ n6_ n7_
              (try clear hb)
              (try clear hb2)
              (try clear hk)
              (try clear hi)
              refine hK.out _ _ ⟨HS0_, HS1_, HS2_, HS3_, HS4_, HS5_, HS6_, HS7_, HS8_, HS9_⟩ (fun hHeld => ?_)
              clear hK K
              refine norm_ (a' := ?_) ?_ ?_
              rotate_left
              ·show Act.put _ (some 36) _ = _
               simp only [Act.put, List.setIfInBounds_toArray, List.set_cons_zero, List.set_cons_succ, i64_w, i32_w]
               rfl
              refine pure_ (i := 13) (N := some 37) (v := ?_) (a' := ?_) #[true, true, true, true, true, true, true, true, true, true, true, true, true, true] rfl rfl (any_of HT_.out (by kernel_rfl)) (fun _ _ _ h => h) (Or.inl ⟨by rfl, ?_⟩) ?_ ?_
              rotate_left
              ·intro w'
               go_simp
               with_reducible rfl
              rotate_left
              ·simp only [Act.put, List.setIfInBounds_toArray, List.set_cons_zero, List.set_cons_succ, i64_w, i32_w]
               rfl
              refine done_ (done_of HT_.out (by kernel_rfl)) ?_
              try go_wp2
              go_roundg k2
              case measure => have := HK1.out; have := HK2.out; omega
              case rel => exact ⟨(ji10), (by first | rfl | (simp; done) | (simp only [← hji10] <;> (first | rfl | simp)) | (simp [*]; done)), H', ⟨by have := HK1.out; have := HK2.out; omega⟩, ⟨by (with_reducible repeat (first | apply Kd.V_alloc | apply Kd.V_drewN | apply Kd.V_drew)); exact HO_0.out⟩, ⟨by (with_reducible repeat (first | apply Kd.N_alloc | apply Kd.N_drewN | apply Kd.N_drew)); exact HO_5.out⟩, ⟨by repeat (first | (with_reducible exact HR186_2.out) | (with_reducible refine Kd.C_alloc ?_ _) | (with_reducible refine Kd.C_drewN ?_ _) | (with_reducible refine Kd.C_drew ?_) | exact HR186_2.out)⟩, ⟨by repeat (first | (with_reducible first | exact HB.out | apply below_alloc | apply pw_below_drewN | apply below_drew1) | exact HB.out)⟩⟩
             ·replace c14 := Bool.eq_false_iff.mpr c14
              subst c14
              have H1 : ((some (([(⟨(rd_T36 l0 x6_1).f0, (rd_T36 l0 x6_1).f1, (rd_T36 l0 x6_1).f2, (rd_T36 l0 x6_1).f3, (rd_T36 l0 x6_1).f4⟩ : S36)] : List (S36)) : List (S36))).bind fun y191 => (if 0 ≤ x7_2 then (if x7_2 ≤ (x5_1.length : Int) then ((some (x5_1.drop (x7_2 : Int).toNat : List (S36))).bind fun y194 => (if y191.length + y194.length < 2513169434916 then ((some (y191 ++ y194 : List (S36))).bind fun y199 => ((some (([] : List (S36)) : List (S36))).bind fun y202 => ((some (x5_1.take (x7_2 : Int).toNat : List (S36))).bind fun y205 => (if y202.length + y205.length < 2513169434916 then ((some (y202 ++ y205 : List (S36))).bind fun y210 => (if y210.length + y199.length < 2513169434916 then (tiltyardref17_Mode.l0 k2 l0 a1 (y210 ++ y199) (wrap64 (x6_1 + 1))) else (none))) else (none))))) else (none))) else (none)) else (none))) = some r := by rw [if_neg (show ¬ (false = true) by decide)] at H; exact H
              clear H
              have H := H1
              clear H1
              obtain ⟨y191, hy191⟩ : ∃ y_ : List (S36), y_ = (([(⟨(rd_T36 l0 x6_1).f0, (rd_T36 l0 x6_1).f1, (rd_T36 l0 x6_1).f2, (rd_T36 l0 x6_1).f3, (rd_T36 l0 x6_1).f4⟩ : S36)] : List (S36))) := ⟨_, rfl⟩
              replace H : (if 0 ≤ x7_2 then (if x7_2 ≤ (x5_1.length : Int) then ((some (x5_1.drop (x7_2 : Int).toNat : List (S36))).bind fun y194 => (if y191.length + y194.length < 2513169434916 then ((some (y191 ++ y194 : List (S36))).bind fun y199 => ((some (([] : List (S36)) : List (S36))).bind fun y202 => ((some (x5_1.take (x7_2 : Int).toNat : List (S36))).bind fun y205 => (if y202.length + y205.length < 2513169434916 then ((some (y202 ++ y205 : List (S36))).bind fun y210 => (if y210.length + y199.length < 2513169434916 then (tiltyardref17_Mode.l0 k2 l0 a1 (y210 ++ y199) (wrap64 (x6_1 + 1))) else (none))) else (none))))) else (none))) else (none)) else (none)) = some r := by first | (rw [hy191]; with_reducible exact H) | (have H2_ := (Option.bind_some _ _).symm.trans H; rw [hy191]; with_reducible exact H2_) | (have H2_ := (Option.bind_some _ _).symm.trans H; with_reducible exact H2_) | with_reducible exact H | (rw [hy191]; exact H) | exact H
              have Ny191 := Aside0.mk hy191
              clear hy191
              by_cases c17 : 0 ≤ x7_2
              ·rw [if_pos c17] at H
               have c17b0 := eq_true c17
               have c17b1 : decide (0 ≤ x7_2) = true := decide_eq_true c17
               clear c17
               by_cases c18 : x7_2 ≤ (x5_1.length : Int)
               ·rw [if_pos c18] at H
                have c18b0 := eq_true c18
                have c18b1 : decide (x7_2 ≤ (x5_1.length : Int)) = true := decide_eq_true c18
                clear c18
                obtain ⟨y194, hy194⟩ : ∃ y_ : List (S36), y_ = (x5_1.drop (x7_2 : Int).toNat) := ⟨_, rfl⟩
                replace H : (if y191.length + y194.length < 2513169434916 then ((some (y191 ++ y194 : List (S36))).bind fun y199 => ((some (([] : List (S36)) : List (S36))).bind fun y202 => ((some (x5_1.take (x7_2 : Int).toNat : List (S36))).bind fun y205 => (if y202.length + y205.length < 2513169434916 then ((some (y202 ++ y205 : List (S36))).bind fun y210 => (if y210.length + y199.length < 2513169434916 then (tiltyardref17_Mode.l0 k2 l0 a1 (y210 ++ y199) (wrap64 (x6_1 + 1))) else (none))) else (none))))) else (none)) = some r := by first | (rw [hy194]; with_reducible exact H) | (have H2_ := (Option.bind_some _ _).symm.trans H; rw [hy194]; with_reducible exact H2_) | (have H2_ := (Option.bind_some _ _).symm.trans H; with_reducible exact H2_) | with_reducible exact H | (rw [hy194]; exact H) | exact H
                have Ny194 := Aside0.mk hy194
                clear hy194
                by_cases c19 : y191.length + y194.length < 2513169434916
                ·rw [if_pos c19] at H
                 have LMc19 := Aside0.mk c19
                 clear c19
                 obtain ⟨y199, hy199⟩ : ∃ y_ : List (S36), y_ = (y191 ++ y194) := ⟨_, rfl⟩
                 replace H : ((some (([] : List (S36)) : List (S36))).bind fun y202 => ((some (x5_1.take (x7_2 : Int).toNat : List (S36))).bind fun y205 => (if y202.length + y205.length < 2513169434916 then ((some (y202 ++ y205 : List (S36))).bind fun y210 => (if y210.length + y199.length < 2513169434916 then (tiltyardref17_Mode.l0 k2 l0 a1 (y210 ++ y199) (wrap64 (x6_1 + 1))) else (none))) else (none)))) = some r := by first | (rw [hy199]; with_reducible exact H) | (have H2_ := (Option.bind_some _ _).symm.trans H; rw [hy199]; with_reducible exact H2_) | (have H2_ := (Option.bind_some _ _).symm.trans H; with_reducible exact H2_) | with_reducible exact H | (rw [hy199]; exact H) | exact H
                 have Ny199 := Aside0.mk hy199
                 clear hy199
                 obtain ⟨y202, hy202⟩ : ∃ y_ : List (S36), y_ = (([] : List (S36))) := ⟨_, rfl⟩
                 replace H : ((some (x5_1.take (x7_2 : Int).toNat : List (S36))).bind fun y205 => (if y202.length + y205.length < 2513169434916 then ((some (y202 ++ y205 : List (S36))).bind fun y210 => (if y210.length + y199.length < 2513169434916 then (tiltyardref17_Mode.l0 k2 l0 a1 (y210 ++ y199) (wrap64 (x6_1 + 1))) else (none))) else (none))) = some r := by first | (rw [hy202]; with_reducible exact H) | (have H2_ := (Option.bind_some _ _).symm.trans H; rw [hy202]; with_reducible exact H2_) | (have H2_ := (Option.bind_some _ _).symm.trans H; with_reducible exact H2_) | with_reducible exact H | (rw [hy202]; exact H) | exact H
                 have Ny202 := Aside0.mk hy202
                 clear hy202
                 have c20b0 := eq_true (of_decide_eq_true (by first | (with_reducible assumption) | assumption) : 0 ≤ x7_2)
                 have c21b0 := eq_true (of_decide_eq_true (by first | (with_reducible assumption) | assumption) : x7_2 ≤ (x5_1.length : Int))
                 obtain ⟨y205, hy205⟩ : ∃ y_ : List (S36), y_ = (x5_1.take (x7_2 : Int).toNat) := ⟨_, rfl⟩
                 replace H : (if y202.length + y205.length < 2513169434916 then ((some (y202 ++ y205 : List (S36))).bind fun y210 => (if y210.length + y199.length < 2513169434916 then (tiltyardref17_Mode.l0 k2 l0 a1 (y210 ++ y199) (wrap64 (x6_1 + 1))) else (none))) else (none)) = some r := by first | (rw [hy205]; with_reducible exact H) | (have H2_ := (Option.bind_some _ _).symm.trans H; rw [hy205]; with_reducible exact H2_) | (have H2_ := (Option.bind_some _ _).symm.trans H; with_reducible exact H2_) | with_reducible exact H | (rw [hy205]; exact H) | exact H
                 have Ny205 := Aside0.mk hy205
                 clear hy205
                 by_cases c22 : y202.length + y205.length < 2513169434916
                 ·rw [if_pos c22] at H
                  have LMc22 := Aside0.mk c22
                  clear c22
                  obtain ⟨y210, hy210⟩ : ∃ y_ : List (S36), y_ = (y202 ++ y205) := ⟨_, rfl⟩
                  replace H : (if y210.length + y199.length < 2513169434916 then (tiltyardref17_Mode.l0 k2 l0 a1 (y210 ++ y199) (wrap64 (x6_1 + 1))) else (none)) = some r := by first | (rw [hy210]; with_reducible exact H) | (have H2_ := (Option.bind_some _ _).symm.trans H; rw [hy210]; with_reducible exact H2_) | (have H2_ := (Option.bind_some _ _).symm.trans H; with_reducible exact H2_) | with_reducible exact H | (rw [hy210]; exact H) | exact H
                  have Ny210 := Aside0.mk hy210
                  clear hy210
                  by_cases c23 : y210.length + y199.length < 2513169434916
                  ·rw [if_pos c23] at H
                   have LMc23 := Aside0.mk c23
                   clear c23
                   obtain ⟨y213, hy213⟩ : ∃ y_ : List (S36), y_ = (y210 ++ y199) := ⟨_, rfl⟩
                   replace H : (tiltyardref17_Mode.l0 k2 l0 a1 y213 (wrap64 (x6_1 + 1))) = some r := by first | (rw [hy213]; with_reducible exact H) | (have H2_ := (Option.bind_some _ _).symm.trans H; rw [hy213]; with_reducible exact H2_) | (have H2_ := (Option.bind_some _ _).symm.trans H; with_reducible exact H2_) | with_reducible exact H | (rw [hy213]; exact H) | exact H
                   have Ny213 := Aside0.mk hy213
                   clear hy213
                   have H' := Aside0.mk H
                   clear H
                   try go_wp2
                   have n0_ := Aside0.mk (Kd.V_drew HO_0.out)
                   have n1_ := Aside0.mk (Kd.N_drew HO_5.out)
                   have n2_ := Aside0.mk (Kd.C_drew HR186_2.out)
                   have n3_ := Aside0.mk (below_drew1 HB.out)
                   clear HO_0
                   clear HO_5
                   clear HR186_2
                   clear HB
                   have HO_0 := n0_
                   have HO_5 := n1_
                   have HR186_2 := n2_
                   have HB := n3_
                   clear n0_ n1_ n2_ n3_
                   have p187 : 0 ≤ (x6_1 : Int) := of_decide_eq_true (by first | (with_reducible assumption) | assumption)
                   have q187 : x6_1 < (l0.length : Int) := of_decide_eq_true (by first | (with_reducible assumption) | assumption)
                   obtain ⟨ad187, A187_2, c187_2, e187, hx187_0, hx187_1, hx187_2, hx187_3, hx187_4, hl187_2, hi187_2⟩ := at_T36 (Kd.V_reads' HO_0.out).2.2 x6_1 p187 q187
                   obtain rfl : ad186 = ad187 := (by injection e187)
                   obtain ⟨ce187, hce187, hMe187, hcc187⟩ := Kd.V_get HO_0.out z36 x6_1 p187 (by first | exact q187 | exact of_decide_eq_true (by first | (with_reducible assumption) | assumption) | (have e_ := (Kd.V_reads' HO_0.out).1; omega))
                   obtain ⟨ua187_2, uc187_2, rfl, ul187_2, ge187_2⟩ := k36_openF hMe187
                   have hv187_2 := hcc187 2 _ rfl
                   rw [add_field _ _ 2 (by omega)] at hv187_2
                   replace hv187_2 := Option.some.inj (hv187_2.symm.trans hx187_2)
                   injection hv187_2 with hva_ hvn_ hvc_
                   rw [hva_] at ge187_2
                   rw [hvc_] at ul187_2
                   have HL187_2 := Aside0.mk (show Kd.V (Kd.int .u32) 33 _ w.heap.size _ _ ((rd_T36 l0 x6_1).f2) from Kd.V_mk ul187_2 ge187_2)
                   clear hva_ hvn_ hvc_ ge187_2 ul187_2
                   clear hcc187 hce187
                   have HR187_2 := Aside0.mk hi187_2
                   have HC187_2 := Aside0.mk hl187_2
                   clear hi187_2 hl187_2
                   replace p187 := eq_true p187
                   replace q187 := eq_true q187
                   have p188 : 0 ≤ ((ji10) : Int) := of_decide_eq_true (by first | (with_reducible assumption) | assumption)
                   have q188 : (ji10) < (x5_1.length : Int) := of_decide_eq_true (by first | (with_reducible assumption) | assumption)
                   obtain ⟨ad188, A188_2, c188_2, e188, hx188_0, hx188_1, hx188_2, hx188_3, hx188_4, hl188_2, hi188_2⟩ := at_T36 (Kd.N_reads' HO_5.out).2.2 (ji10) p188 q188
                   cases e188
                   obtain ⟨ce188, hce188, hMe188, hcc188⟩ := Kd.N_get HO_5.out z36 (ji10) p188 (by first | exact q188 | exact of_decide_eq_true (by first | (with_reducible assumption) | assumption) | (have e_ := (Kd.N_reads' HO_5.out).1; omega))
                   obtain ⟨ua188_2, uc188_2, rfl, ul188_2, ge188_2⟩ := k36_openF hMe188
                   have hv188_2 := hcc188 2 _ rfl
                   rw [add_field _ _ 2 (by omega)] at hv188_2
                   replace hv188_2 := Option.some.inj (hv188_2.symm.trans hx188_2)
                   injection hv188_2 with hva_ hvn_ hvc_
                   rw [hva_] at ge188_2
                   rw [hvc_] at ul188_2
                   have HL188_2 := Aside0.mk (show Kd.V (Kd.int .u32) 33 _ w.heap.size _ _ ((rd_T36 x5_1 (ji10)).f2) from Kd.V_mk ul188_2 ge188_2)
                   clear hva_ hvn_ hvc_ ge188_2 ul188_2
                   clear hcc188 hce188
                   have HR188_2 := Aside0.mk hi188_2
                   have HC188_2 := Aside0.mk hl188_2
                   clear hi188_2 hl188_2
                   replace p188 := eq_true p188
                   replace q188 := eq_true q188
                   refine start_ (n := 14) (S := fun w' => w'.cell? (ad186.add ((x6_1).toNat * 5)) = some (.int .u32 ((rd_T36 l0 x6_1).f0)) ∧ w'.cell? ⟨(ad186.add ((x6_1).toNat * 5)).block, (ad186.add ((x6_1).toNat * 5)).off + 1, none⟩ = some (.int .i64 ((rd_T36 l0 x6_1).f1)) ∧ w'.cell? ⟨(ad186.add ((x6_1).toNat * 5)).block, (ad186.add ((x6_1).toNat * 5)).off + 2, none⟩ = some (.slice A187_2 ((rd_T36 l0 x6_1).f2).length c187_2) ∧ w'.cell? ⟨(ad186.add ((x6_1).toNat * 5)).block, (ad186.add ((x6_1).toNat * 5)).off + 3, none⟩ = some (.int .i64 ((rd_T36 l0 x6_1).f3)) ∧ w'.cell? ⟨(ad186.add ((x6_1).toNat * 5)).block, (ad186.add ((x6_1).toNat * 5)).off + 4, none⟩ = some (.int .i64 ((rd_T36 l0 x6_1).f4)) ∧ w'.cell? (ad188.add (((ji10)).toNat * 5)) = some (.int .u32 ((rd_T36 x5_1 (ji10)).f0)) ∧ w'.cell? ⟨(ad188.add (((ji10)).toNat * 5)).block, (ad188.add (((ji10)).toNat * 5)).off + 1, none⟩ = some (.int .i64 ((rd_T36 x5_1 (ji10)).f1)) ∧ w'.cell? ⟨(ad188.add (((ji10)).toNat * 5)).block, (ad188.add (((ji10)).toNat * 5)).off + 2, none⟩ = some (.slice A188_2 ((rd_T36 x5_1 (ji10)).f2).length c188_2) ∧ w'.cell? ⟨(ad188.add (((ji10)).toNat * 5)).block, (ad188.add (((ji10)).toNat * 5)).off + 3, none⟩ = some (.int .i64 ((rd_T36 x5_1 (ji10)).f3)) ∧ w'.cell? ⟨(ad188.add (((ji10)).toNat * 5)).block, (ad188.add (((ji10)).toNat * 5)).off + 4, none⟩ = some (.int .i64 ((rd_T36 x5_1 (ji10)).f4))) (ds := []) #[false, false, false, false, false, false, false, false, false, false, false, false, false, false] (by kernel_rfl) rfl rfl ⟨hx187_0, hx187_1, hx187_2, hx187_3, hx187_4, hx188_0, hx188_1, hx188_2, hx188_3, hx188_4⟩ (fun hHeld => ?_); refine with_tabW tiltyardref17_Mode.tab7 tiltyardref17_Mode.bits7 (fun HT_ HW_ => ?_)
                   generalize wr.drew = w24 at HO_0 HO_5 HR186_2 HB HL187_2 HL188_2 HR187_2 HR188_2 hx187_0 hx187_1 hx187_2 hx187_3 hx187_4 hx188_0 hx188_1 hx188_2 hx188_3 hx188_4 hHeld ⊢
                   refine pure_ (i := 0) (N := some 24) (v := ?_) (a' := ?_) #[true, false, false, false, false, false, false, false, false, false, false, false, false, false] rfl rfl (any_of HT_.out (by kernel_rfl)) (fun _ _ _ h => h) (Or.inl ⟨by rfl, ?_⟩) ?_ ?_
                   rotate_left
                   ·intro w'
                    go_simp
                    with_reducible rfl
                   rotate_left
                   ·simp only [Act.put, List.setIfInBounds_toArray, List.set_cons_zero, List.set_cons_succ, i64_w, i32_w]
                    rfl
                   refine pure_ (i := 1) (N := some 25) (v := ?_) (a' := ?_) #[true, true, false, false, false, false, false, false, false, false, false, false, false, false] rfl rfl (any_of HT_.out (by kernel_rfl)) (fun _ _ _ h => h) (Or.inl ⟨by rfl, ?_⟩) ?_ ?_
                   rotate_left
                   ·intro w'
                    go_simp
                    with_reducible rfl
                   rotate_left
                   ·simp only [Act.put, List.setIfInBounds_toArray, List.set_cons_zero, List.set_cons_succ, i64_w, i32_w]
                    rfl
                   refine pure_ (i := 2) (N := some 26) (v := ?_) (a' := ?_) #[true, true, true, false, false, false, false, false, false, false, false, false, false, false] rfl rfl (any_of HT_.out (by kernel_rfl)) (fun _ _ _ h => h) (Or.inl ⟨by rfl, ?_⟩) ?_ ?_
                   rotate_left
                   ·intro w'
                    go_simp
                    with_reducible rfl
                   rotate_left
                   ·simp only [Act.put, List.setIfInBounds_toArray, List.set_cons_zero, List.set_cons_succ, i64_w, i32_w]
                    rfl
                   refine pure_ (i := 3) (N := some 27) (v := ?_) (a' := ?_) #[true, true, true, true, false, false, false, false, false, false, false, false, false, false] rfl rfl (any_of HT_.out (by kernel_rfl)) (fun _ _ _ h => h) (Or.inl ⟨by rfl, ?_⟩) ?_ ?_
                   rotate_left
                   ·intro w'
                    go_simp
                    with_reducible rfl
                   rotate_left
                   ·simp only [Act.put, List.setIfInBounds_toArray, List.set_cons_zero, List.set_cons_succ, i64_w, i32_w]
                    rfl
                   refine pure_ (i := 4) (N := some 28) (v := ?_) (a' := ?_) #[true, true, true, true, true, false, false, false, false, false, false, false, false, false] rfl rfl (any_of HT_.out (by kernel_rfl)) (fun _ _ _ h => h) (Or.inl ⟨by rfl, ?_⟩) ?_ ?_
                   rotate_left
                   ·intro w'
                    go_simp
                    with_reducible rfl
                   rotate_left
                   ·simp only [Act.put, List.setIfInBounds_toArray, List.set_cons_zero, List.set_cons_succ, i64_w, i32_w]
                    rfl
                   refine pure_ (i := 5) (N := some 29) (v := ?_) (a' := ?_) #[true, true, true, true, true, true, false, false, false, false, false, false, false, false] rfl rfl (any_of HT_.out (by kernel_rfl)) (fun _ _ _ h => h) (Or.inl ⟨by rfl, ?_⟩) ?_ ?_
                   rotate_left
                   ·intro w'
                    go_simp
                    with_reducible rfl
                   rotate_left
                   ·simp only [Act.put, List.setIfInBounds_toArray, List.set_cons_zero, List.set_cons_succ, i64_w, i32_w]
                    rfl
                   refine pure_ (i := 7) (N := some 31) (v := ?_) (a' := ?_) #[true, true, true, true, true, true, false, true, false, false, false, false, false, false] rfl rfl (any_of HT_.out (by kernel_rfl)) (fun _ _ _ h => h) (Or.inl ⟨by rfl, ?_⟩) ?_ ?_
                   rotate_left
                   ·intro w'
                    go_simp
                    with_reducible rfl
                   rotate_left
                   ·simp only [Act.put, List.setIfInBounds_toArray, List.set_cons_zero, List.set_cons_succ, i64_w, i32_w]
                    rfl
                   refine pure_ (i := 8) (N := some 32) (v := ?_) (a' := ?_) #[true, true, true, true, true, true, false, true, true, false, false, false, false, false] rfl rfl (any_of HT_.out (by kernel_rfl)) (fun _ _ _ h => h) (Or.inl ⟨by rfl, ?_⟩) ?_ ?_
                   rotate_left
                   ·intro w'
                    go_simp
                    with_reducible rfl
                   rotate_left
                   ·simp only [Act.put, List.setIfInBounds_toArray, List.set_cons_zero, List.set_cons_succ, i64_w, i32_w]
                    rfl
                   refine pure_ (i := 9) (N := some 33) (v := ?_) (a' := ?_) #[true, true, true, true, true, true, false, true, true, true, false, false, false, false] rfl rfl (any_of HT_.out (by kernel_rfl)) (fun _ _ _ h => h) (Or.inl ⟨by rfl, ?_⟩) ?_ ?_
                   rotate_left
                   ·intro w'
                    go_simp
                    with_reducible rfl
                   rotate_left
                   ·simp only [Act.put, List.setIfInBounds_toArray, List.set_cons_zero, List.set_cons_succ, i64_w, i32_w]
                    rfl
                   refine pure_ (i := 10) (N := some 34) (v := ?_) (a' := ?_) #[true, true, true, true, true, true, false, true, true, true, true, false, false, false] rfl rfl (any_of HT_.out (by kernel_rfl)) (fun _ _ _ h => h) (Or.inl ⟨by rfl, ?_⟩) ?_ ?_
                   rotate_left
                   ·intro w'
                    go_simp
                    with_reducible rfl
                   rotate_left
                   ·simp only [Act.put, List.setIfInBounds_toArray, List.set_cons_zero, List.set_cons_succ, i64_w, i32_w]
                    rfl
                   refine take_ (i := 6) (N := some 30) (v := ?_) (a' := ?_) #[true, true, true, true, true, true, true, true, true, true, true, false, false, false] rfl rfl (take_ofW HT_.out HW_.out (by kernel_rfl)) (fun _ _ _ h => h) (Or.inl ⟨by rfl, ?_⟩) hHeld ?_ ?_
                   rotate_left
                   ·rintro w' ⟨s0, s1, s2, s3, s4, s5, s6, s7, s8, s9⟩
                    go_simp
                    with_reducible rfl
                   rotate_left
                   ·simp only [Act.put, List.setIfInBounds_toArray, List.set_cons_zero, List.set_cons_succ, i64_w, i32_w]
                    rfl
                   refine take_ (i := 11) (N := some 35) (v := ?_) (a' := ?_) #[true, true, true, true, true, true, true, true, true, true, true, true, false, false] rfl rfl (take_ofW HT_.out HW_.out (by kernel_rfl)) (fun _ _ _ h => h) (Or.inl ⟨by rfl, ?_⟩) hHeld ?_ ?_
                   rotate_left
                   ·rintro w' ⟨s0, s1, s2, s3, s4, s5, s6, s7, s8, s9⟩
                    go_simp
                    with_reducible rfl
                   rotate_left
                   ·simp only [Act.put, List.setIfInBounds_toArray, List.set_cons_zero, List.set_cons_succ, i64_w, i32_w]
                    rfl
                   refine one_ (i := 12) (N := some 36) #[true, true, true, true, true, true, true, true, true, true, true, true, true, false] rfl rfl (one_of HT_.out (by kernel_rfl)) (by decide) (fun K hK => ?_)
                   refine goes_ Try.func104 (by kernel_rfl) rfl #[.agg #[.int .u32 ((rd_T36 l0 x6_1).f0), .int .i64 ((rd_T36 l0 x6_1).f1), .slice A187_2 ((rd_T36 l0 x6_1).f2).length c187_2, .int .i64 ((rd_T36 l0 x6_1).f3), .int .i64 ((rd_T36 l0 x6_1).f4)], .agg #[.int .u32 ((rd_T36 x5_1 (ji10)).f0), .int .i64 ((rd_T36 x5_1 (ji10)).f1), .slice A188_2 ((rd_T36 x5_1 (ji10)).f2).length c188_2, .int .i64 ((rd_T36 x5_1 (ji10)).f3), .int .i64 ((rd_T36 x5_1 (ji10)).f4)]] (by rfl) rfl rfl (by (try simp only [List.map_toArray, List.map_cons, List.map_nil]); first | done | (simp only [hji10]; rfl) | rfl | (simp only [List.length_drop, List.length_take]; rfl)) ?_
                   with_reducible refine (tiltyardref17_ahead.calls ((rd_T36 l0 x6_1).f0) ((rd_T36 l0 x6_1).f1) _ _ ((rd_T36 l0 x6_1).f2) ((rd_T36 l0 x6_1).f3) ((rd_T36 l0 x6_1).f4) ((rd_T36 x5_1 (ji10)).f0) ((rd_T36 x5_1 (ji10)).f1) _ _ ((rd_T36 x5_1 (ji10)).f2) ((rd_T36 x5_1 (ji10)).f3) ((rd_T36 x5_1 (ji10)).f4) false _ ?side1 ?side2 ?side3 ?side4 A13.out).mono ?_
                   (case side1 => repeat (first | exact (by repeat (first | (with_reducible exact HR187_2.out) | (with_reducible refine Kd.C_alloc ?_ _) | (with_reducible refine Kd.C_drewN ?_ _) | (with_reducible refine Kd.C_drew ?_) | exact HR187_2.out)) | (with_reducible refine Kd.C_alloc ?_ _) | (with_reducible refine Kd.C_drewN ?_ _) | (with_reducible refine Kd.C_drew ?_)))
                   (case side2 => exact HC187_2.out)
                   (case side3 => repeat (first | exact (by repeat (first | (with_reducible exact HR188_2.out) | (with_reducible refine Kd.C_alloc ?_ _) | (with_reducible refine Kd.C_drewN ?_ _) | (with_reducible refine Kd.C_drew ?_) | exact HR188_2.out)) | (with_reducible refine Kd.C_alloc ?_ _) | (with_reducible refine Kd.C_drewN ?_ _) | (with_reducible refine Kd.C_drew ?_)))
                   (case side4 => exact HC188_2.out)
                   rintro e w25 ⟨rfl, hb⟩
                   have HS0_ := (hb.cell (World.block_lt_of_cell? _ _ (hHeld.1))).trans (hHeld.1)
                   have HS1_ := (hb.cell (World.block_lt_of_cell? _ _ (hHeld.2.1))).trans (hHeld.2.1)
                   have HS2_ := (hb.cell (World.block_lt_of_cell? _ _ (hHeld.2.2.1))).trans (hHeld.2.2.1)
                   have HS3_ := (hb.cell (World.block_lt_of_cell? _ _ (hHeld.2.2.2.1))).trans (hHeld.2.2.2.1)
                   have HS4_ := (hb.cell (World.block_lt_of_cell? _ _ (hHeld.2.2.2.2.1))).trans (hHeld.2.2.2.2.1)
                   have HS5_ := (hb.cell (World.block_lt_of_cell? _ _ (hHeld.2.2.2.2.2.1))).trans (hHeld.2.2.2.2.2.1)
                   have HS6_ := (hb.cell (World.block_lt_of_cell? _ _ (hHeld.2.2.2.2.2.2.1))).trans (hHeld.2.2.2.2.2.2.1)
                   have HS7_ := (hb.cell (World.block_lt_of_cell? _ _ (hHeld.2.2.2.2.2.2.2.1))).trans (hHeld.2.2.2.2.2.2.2.1)
                   have HS8_ := (hb.cell (World.block_lt_of_cell? _ _ (hHeld.2.2.2.2.2.2.2.2.1))).trans (hHeld.2.2.2.2.2.2.2.2.1)
                   have HS9_ := (hb.cell (World.block_lt_of_cell? _ _ (hHeld.2.2.2.2.2.2.2.2.2))).trans (hHeld.2.2.2.2.2.2.2.2.2)
                   refine ⟨_, rfl, ?_⟩
                   have n0_ := Aside0.mk (Kd.V_below (by (with_reducible repeat (first | apply Kd.V_alloc | apply Kd.V_drewN | apply Kd.V_drew)); exact HO_0.out) hb)
                   have n1_ := Aside0.mk (Kd.N_below (by (with_reducible repeat (first | apply Kd.N_alloc | apply Kd.N_drewN | apply Kd.N_drew)); exact HO_5.out) hb)
                   have n2_ := Aside0.mk (Kd.V_below (by (with_reducible repeat (first | apply Kd.V_alloc | apply Kd.V_drewN | apply Kd.V_drew)); exact HL187_2.out) hb)
                   have n3_ := Aside0.mk (Kd.V_below (by (with_reducible repeat (first | apply Kd.V_alloc | apply Kd.V_drewN | apply Kd.V_drew)); exact HL188_2.out) hb)
                   have n4_ := Aside0.mk (Kd.C_below (by repeat (first | (with_reducible exact HR186_2.out) | (with_reducible refine Kd.C_alloc ?_ _) | (with_reducible refine Kd.C_drewN ?_ _) | (with_reducible refine Kd.C_drew ?_) | exact HR186_2.out)) hb)
                   have n5_ := Aside0.mk (Kd.C_below (by repeat (first | (with_reducible exact HR187_2.out) | (with_reducible refine Kd.C_alloc ?_ _) | (with_reducible refine Kd.C_drewN ?_ _) | (with_reducible refine Kd.C_drew ?_) | exact HR187_2.out)) hb)
                   have n6_ := Aside0.mk (Kd.C_below (by repeat (first | (with_reducible exact HR188_2.out) | (with_reducible refine Kd.C_alloc ?_ _) | (with_reducible refine Kd.C_drewN ?_ _) | (with_reducible refine Kd.C_drew ?_) | exact HR188_2.out)) hb)
                   have n7_ := Aside0.mk (below_step (by repeat (first | (with_reducible first | exact HB.out | apply below_alloc | apply pw_below_drewN | apply below_drew1) | exact HB.out)) hb)
                   clear HO_0
                   clear HO_5
                   clear HL187_2
                   clear HL188_2
                   clear HR186_2
                   clear HR187_2
                   clear HR188_2
                   clear HB
                   have HO_0 := n0_
                   have HO_5 := n1_
                   have HL187_2 := n2_
                   have HL188_2 := n3_
                   have HR186_2 := n4_
                   have HR187_2 := n5_
                   have HR188_2 := n6_
                   have HB := n7_
                   clear n0_ n1_ n2_ n3_ n4_ n5_ n6_ n7_
                   (try clear hb)
                   (try clear hb2)
                   (try clear hk)
                   (try clear hi)
                   refine hK.out _ _ ⟨HS0_, HS1_, HS2_, HS3_, HS4_, HS5_, HS6_, HS7_, HS8_, HS9_⟩ (fun hHeld => ?_)
                   clear hK K
                   refine norm_ (a' := ?_) ?_ ?_
                   rotate_left
                   ·show Act.put _ (some 36) _ = _
                    simp only [Act.put, List.setIfInBounds_toArray, List.set_cons_zero, List.set_cons_succ, i64_w, i32_w]
                    rfl
                   refine pure_ (i := 13) (N := some 37) (v := ?_) (a' := ?_) #[true, true, true, true, true, true, true, true, true, true, true, true, true, true] rfl rfl (any_of HT_.out (by kernel_rfl)) (fun _ _ _ h => h) (Or.inl ⟨by rfl, ?_⟩) ?_ ?_
                   rotate_left
                   ·intro w'
                    go_simp
                    with_reducible rfl
                   rotate_left
                   ·simp only [Act.put, List.setIfInBounds_toArray, List.set_cons_zero, List.set_cons_succ, i64_w, i32_w]
                    rfl
                   refine done_ (done_of HT_.out (by kernel_rfl)) ?_
                   try go_wp2
                   have n0_ := Aside0.mk (Kd.V_drew HO_0.out)
                   have n1_ := Aside0.mk (Kd.N_drew HO_5.out)
                   have n2_ := Aside0.mk (Kd.V_drew HL187_2.out)
                   have n3_ := Aside0.mk (Kd.V_drew HL188_2.out)
                   have n4_ := Aside0.mk (Kd.C_drew HR186_2.out)
                   have n5_ := Aside0.mk (Kd.C_drew HR187_2.out)
                   have n6_ := Aside0.mk (Kd.C_drew HR188_2.out)
                   have n7_ := Aside0.mk (below_drew1 HB.out)
                   clear HO_0
                   clear HO_5
                   clear HL187_2
                   clear HL188_2
                   clear HR186_2
                   clear HR187_2
                   clear HR188_2
                   clear HB
                   have HO_0 := n0_
                   have HO_5 := n1_
                   have HL187_2 := n2_
                   have HL188_2 := n3_
                   have HR186_2 := n4_
                   have HR187_2 := n5_
                   have HR188_2 := n6_
                   have HB := n7_
                   clear n0_ n1_ n2_ n3_ n4_ n5_ n6_ n7_
                   have p190 : 0 ≤ (x6_1 : Int) := of_decide_eq_true (by first | (with_reducible assumption) | assumption)
                   have q190 : x6_1 < (l0.length : Int) := of_decide_eq_true (by first | (with_reducible assumption) | assumption)
                   obtain ⟨ad190, A190_2, c190_2, e190, hx190_0, hx190_1, hx190_2, hx190_3, hx190_4, hl190_2, hi190_2⟩ := at_T36 (Kd.V_reads' HO_0.out).2.2 x6_1 p190 q190
                   obtain rfl : ad186 = ad190 := (by injection e190)
                   obtain ⟨ce190, hce190, hMe190, hcc190⟩ := Kd.V_get HO_0.out z36 x6_1 p190 (by first | exact q190 | exact of_decide_eq_true (by first | (with_reducible assumption) | assumption) | (have e_ := (Kd.V_reads' HO_0.out).1; omega))
                   obtain ⟨ua190_2, uc190_2, rfl, ul190_2, ge190_2⟩ := k36_openF hMe190
                   have hv190_2 := hcc190 2 _ rfl
                   rw [add_field _ _ 2 (by omega)] at hv190_2
                   replace hv190_2 := Option.some.inj (hv190_2.symm.trans hx190_2)
                   injection hv190_2 with hva_ hvn_ hvc_
                   rw [hva_] at ge190_2
                   rw [hvc_] at ul190_2
                   have HL190_2 := Aside0.mk (show Kd.V (Kd.int .u32) 33 _ w.heap.size _ _ ((rd_T36 l0 x6_1).f2) from Kd.V_mk ul190_2 ge190_2)
                   clear hva_ hvn_ hvc_ ge190_2 ul190_2
                   clear hcc190 hce190
                   have HR190_2 := Aside0.mk hi190_2
                   have HC190_2 := Aside0.mk hl190_2
                   clear hi190_2 hl190_2
                   replace p190 := eq_true p190
                   replace q190 := eq_true q190
                   have q27 : (x7_2 : Int) ≤ ((x5_1.length : Int) : Int) := of_decide_eq_true (by first | (with_reducible assumption) | assumption)
                   obtain ⟨i027, hi027, _, hsz27, _⟩ := info_parts info36
                   have hroom27 : x5_1.length ≤ co6 := (Kd.N_reads' HO_5.out).2.1
                   have hC27 : Kd.F k36 _ _ (some ad188) x5_1.length x5_1 := (Kd.V_at (base := w.heap.size) (Kd.N_V HO_5.out)).2.2
                   have q027 : (0 : Int) ≤ (x7_2 : Int) := of_decide_eq_true (by first | (with_reducible assumption) | assumption)
                   have hcut27 := cut_from (P := Try.prog) 22 36 .i64 Try.underlying22 hi027 5 hsz27 (some ad188) x5_1.length co6 x7_2 q027 q27
                   have hr27 := Kd.F_cut (m := (x7_2 : Int).toNat) (c := co6) hC27 (by omega) hroom27
                   obtain ⟨A27, hA27⟩ : ∃ A1, A1 = (if co6 = (x7_2 : Int).toNat then (some ad188) else ((some ad188) : Option Addr).map (·.add ((x7_2 : Int).toNat * 5))) := ⟨_, rfl⟩
                   obtain ⟨c27, hc27⟩ : ∃ c1, c1 = co6 - (x7_2 : Int).toNat := ⟨_, rfl⟩
                   have hy27 : y194.length = x5_1.length - (x7_2 : Int).toNat := (by rw [Ny194.out, List.length_drop] <;> omega)
                   rw [show (x5_1).drop (x7_2 : Int).toNat = y194 from Ny194.out.symm] at hr27
                   replace hr27 : Kd.F k36 _ _ A27 y194.length y194 := (by rw [hA27]; exact hr27)
                   rw [← hy27, ← hA27, ← hc27] at hcut27
                   have HO198 := Aside0.mk (show Kd.V k36 36 _ w.heap.size _ (.slice A27 y194.length c27) y194 from Kd.V_mk (by rw [hy27, hc27]; exact Nat.sub_le_sub_right hroom27 _) hr27)
                   have HC198 := Aside0.mk (show y194.length ≤ c27 from by rw [hy27, hc27]; exact Nat.sub_le_sub_right hroom27 _)
                   clear hr27 hC27 hroom27 hi027 hsz27 hc27
                   have KY27 := Aside0.mk hy27
                   have KA27 := Aside0.mk hA27
                   clear hy27 hA27
                   replace q27 := eq_true q27
                   refine start_ (n := 10) (S := fun w' => w'.cell? (ad186.add ((x6_1).toNat * 5)) = some (.int .u32 ((rd_T36 l0 x6_1).f0)) ∧ w'.cell? ⟨(ad186.add ((x6_1).toNat * 5)).block, (ad186.add ((x6_1).toNat * 5)).off + 1, none⟩ = some (.int .i64 ((rd_T36 l0 x6_1).f1)) ∧ w'.cell? ⟨(ad186.add ((x6_1).toNat * 5)).block, (ad186.add ((x6_1).toNat * 5)).off + 2, none⟩ = some (.slice A190_2 ((rd_T36 l0 x6_1).f2).length c190_2) ∧ w'.cell? ⟨(ad186.add ((x6_1).toNat * 5)).block, (ad186.add ((x6_1).toNat * 5)).off + 3, none⟩ = some (.int .i64 ((rd_T36 l0 x6_1).f3)) ∧ w'.cell? ⟨(ad186.add ((x6_1).toNat * 5)).block, (ad186.add ((x6_1).toNat * 5)).off + 4, none⟩ = some (.int .i64 ((rd_T36 l0 x6_1).f4))) (ds := [8]) #[false, false, false, false, false, false, false, false, false, false] (by kernel_rfl) rfl rfl ⟨hx190_0, hx190_1, hx190_2, hx190_3, hx190_4⟩ (fun hHeld => ?_); refine with_tabW tiltyardref17_Mode.tab9 tiltyardref17_Mode.bits9 (fun HT_ HW_ => ?_)
                   generalize w25.drew = w26 at HO_0 HO_5 HL187_2 HL188_2 HR186_2 HR187_2 HR188_2 HB HL190_2 HO198 HR190_2 hx190_0 hx190_1 hx190_2 hx190_3 hx190_4 hHeld ⊢
                   refine pure_ (i := 0) (N := some 40) (v := ?_) (a' := ?_) #[true, false, false, false, false, false, false, false, false, false] rfl rfl (any_of HT_.out (by kernel_rfl)) (fun _ _ _ h => h) (Or.inl ⟨by rfl, ?_⟩) ?_ ?_
                   rotate_left
                   ·intro w'
                    go_simp
                    with_reducible rfl
                   rotate_left
                   ·simp only [Act.put, List.setIfInBounds_toArray, List.set_cons_zero, List.set_cons_succ, i64_w, i32_w]
                    rfl
                   refine pure_ (i := 1) (N := some 41) (v := ?_) (a' := ?_) #[true, true, false, false, false, false, false, false, false, false] rfl rfl (any_of HT_.out (by kernel_rfl)) (fun _ _ _ h => h) (Or.inl ⟨by rfl, ?_⟩) ?_ ?_
                   rotate_left
                   ·intro w'
                    go_simp
                    with_reducible rfl
                   rotate_left
                   ·simp only [Act.put, List.setIfInBounds_toArray, List.set_cons_zero, List.set_cons_succ, i64_w, i32_w]
                    rfl
                   refine pure_ (i := 2) (N := some 42) (v := ?_) (a' := ?_) #[true, true, true, false, false, false, false, false, false, false] rfl rfl (any_of HT_.out (by kernel_rfl)) (fun _ _ _ h => h) (Or.inl ⟨by rfl, ?_⟩) ?_ ?_
                   rotate_left
                   ·intro w'
                    go_simp
                    with_reducible rfl
                   rotate_left
                   ·simp only [Act.put, List.setIfInBounds_toArray, List.set_cons_zero, List.set_cons_succ, i64_w, i32_w]
                    rfl
                   refine pure_ (i := 5) (N := some 45) (v := ?_) (a' := ?_) #[true, true, true, false, false, true, false, false, false, false] rfl rfl (any_of HT_.out (by kernel_rfl)) (fun _ _ _ h => h) (Or.inl ⟨by rfl, ?_⟩) ?_ ?_
                   rotate_left
                   ·intro w'
                    go_simp
                    with_reducible rfl
                   rotate_left
                   ·simp only [Act.put, List.setIfInBounds_toArray, List.set_cons_zero, List.set_cons_succ, i64_w, i32_w]
                    rfl
                   refine pure_ (i := 6) (N := some 46) (v := ?_) (a' := ?_) #[true, true, true, false, false, true, true, false, false, false] rfl rfl (any_of HT_.out (by kernel_rfl)) (fun _ _ _ h => h) (Or.inl ⟨by rfl, ?_⟩) ?_ ?_
                   rotate_left
                   ·intro w'
                    go_simp
                    with_reducible rfl
                   rotate_left
                   ·simp only [Act.put, List.setIfInBounds_toArray, List.set_cons_zero, List.set_cons_succ, i64_w, i32_w]
                    rfl
                   refine pure_ (i := 7) (N := some 47) (v := ?_) (a' := ?_) #[true, true, true, false, false, true, true, true, false, false] rfl rfl (any_of HT_.out (by kernel_rfl)) (fun _ _ _ h => h) (Or.inl ⟨by rfl, ?_⟩) ?_ ?_
                   rotate_left
                   ·intro w'
                    go_simp
                    with_reducible rfl
                   rotate_left
                   ·simp only [Act.put, List.setIfInBounds_toArray, List.set_cons_zero, List.set_cons_succ, i64_w, i32_w]
                    rfl
                   refine take_ (i := 3) (N := some 43) (v := ?_) (a' := ?_) #[true, true, true, true, false, true, true, true, false, false] rfl rfl (take_ofW HT_.out HW_.out (by kernel_rfl)) (fun _ _ _ h => h) (Or.inl ⟨by rfl, ?_⟩) hHeld ?_ ?_
                   rotate_left
                   ·rintro w' ⟨s0, s1, s2, s3, s4⟩
                    go_simp
                    with_reducible rfl
                   rotate_left
                   ·simp only [Act.put, List.setIfInBounds_toArray, List.set_cons_zero, List.set_cons_succ, i64_w, i32_w]
                    rfl
                   refine one_ (i := 4) (N := some 44) #[true, true, true, true, true, true, true, true, false, false] rfl rfl (one_of HT_.out (by kernel_rfl)) (by decide) (fun K hK => ?_)
                   refine Kd.N_lit_step k36 _ 36 ?hg (N' := 44) ?hd (xs := ([(⟨(rd_T36 l0 x6_1).f0, (rd_T36 l0 x6_1).f1, (rd_T36 l0 x6_1).f2, (rd_T36 l0 x6_1).f3, (rd_T36 l0 x6_1).f4⟩ : S36)] : List (S36))) (inner := [.int .u32 ((rd_T36 l0 x6_1).f0), .int .i64 ((rd_T36 l0 x6_1).f1), .slice A190_2 ((rd_T36 l0 x6_1).f2).length c190_2, .int .i64 ((rd_T36 l0 x6_1).f3), .int .i64 ((rd_T36 l0 x6_1).f4)]) (ok := (fun k_ => (P0_ k_ ∨ w.heap.size ≤ k_) ∧ some k_ ≠ (.slice (some ad188) x5_1.length co6 : Value).ownBlock)) (okp := (fun k_ => (P0_ k_ ∨ w.heap.size ≤ k_) ∧ some k_ ≠ (.slice (some ad188) x5_1.length co6 : Value).ownBlock)) ?hr ?hp (fun _ hk => hk) ((show ∀ k_, w26.heap.size ≤ k_ → (fun k_ => (P0_ k_ ∨ w.heap.size ≤ k_) ∧ some k_ ≠ (.slice (some ad188) x5_1.length co6 : Value).ownBlock) k_ from fun k_ hk => ⟨(.inr (Nat.le_trans (below_size (by repeat (first | (with_reducible first | exact HB.out | apply below_alloc | apply pw_below_drewN | apply below_drew1) | exact HB.out))) hk)), Kd.fresh' (Kd.N_lt (by (with_reducible repeat (first | apply Kd.N_alloc | apply Kd.N_drewN | apply Kd.N_drew)); exact HO_5.out)) k_ hk⟩) _ (Nat.le_refl _)) (Below.refl _ _) (Nat.le_refl _) (by simp) ?_; (case hd => rfl); (case hg => rfl); (case hr => first | (go_simp; done) | (go_simp; rfl)); (case hp => exact (Reps.c5 (show Kd.FK k36 _ _ (⟨(rd_T36 l0 x6_1).f0, (rd_T36 l0 x6_1).f1, (rd_T36 l0 x6_1).f2, (rd_T36 l0 x6_1).f3, (rd_T36 l0 x6_1).f4⟩ : S36) [.int .u32 ((rd_T36 l0 x6_1).f0), .int .i64 ((rd_T36 l0 x6_1).f1), .slice A190_2 ((rd_T36 l0 x6_1).f2).length c190_2, .int .i64 ((rd_T36 l0 x6_1).f3), .int .i64 ((rd_T36 l0 x6_1).f4)] from (k36_mkF _ _ (⟨(rd_T36 l0 x6_1).f0, (rd_T36 l0 x6_1).f1, (rd_T36 l0 x6_1).f2, (rd_T36 l0 x6_1).f3, (rd_T36 l0 x6_1).f4⟩ : S36) (Kd.V_reads' (Kd.V_mono (ok' := (fun k_ => (P0_ k_ ∨ w.heap.size ≤ k_) ∧ some k_ ≠ (.slice (some ad188) x5_1.length co6 : Value).ownBlock)) (HL190_2.out) (fun k_ hk => ⟨hk.1, hk.2⟩))).2.1 (Kd.V_F (Kd.V_mono (ok' := (fun k_ => (P0_ k_ ∨ w.heap.size ≤ k_) ∧ some k_ ≠ (.slice (some ad188) x5_1.length co6 : Value).ownBlock)) (HL190_2.out) (fun k_ hk => ⟨hk.1, hk.2⟩))))) (Reps.none _ _)))
                   intro v192 w28 ho29 hb hg_ hnew_
                   have HS0_ := (hb.cell (World.block_lt_of_cell? _ _ (hHeld.1))).trans (hHeld.1)
                   have HS1_ := (hb.cell (World.block_lt_of_cell? _ _ (hHeld.2.1))).trans (hHeld.2.1)
                   have HS2_ := (hb.cell (World.block_lt_of_cell? _ _ (hHeld.2.2.1))).trans (hHeld.2.2.1)
                   have HS3_ := (hb.cell (World.block_lt_of_cell? _ _ (hHeld.2.2.2.1))).trans (hHeld.2.2.2.1)
                   have HS4_ := (hb.cell (World.block_lt_of_cell? _ _ (hHeld.2.2.2.2))).trans (hHeld.2.2.2.2)
                   clear hg_ hnew_
                   (first | rw [← Ny191.out] at ho29 | (simp only [Int.reduceToNat] at ho29; rw [← Ny191.out] at ho29))
                   have n0_ := Aside0.mk (Kd.V_elder' (by (with_reducible repeat (first | apply Kd.V_alloc | apply Kd.V_drewN | apply Kd.V_drew)); exact HO_0.out) (Kd.N_base ho29) hb)
                   have n1_ := Aside0.mk (Kd.N_elder' (by (with_reducible repeat (first | apply Kd.N_alloc | apply Kd.N_drewN | apply Kd.N_drew)); exact HO_5.out) (Kd.N_base ho29) hb)
                   have n2_ := Aside0.mk (Kd.V_elder' (by (with_reducible repeat (first | apply Kd.V_alloc | apply Kd.V_drewN | apply Kd.V_drew)); exact HL187_2.out) (Kd.N_base ho29) hb)
                   have n3_ := Aside0.mk (Kd.V_elder' (by (with_reducible repeat (first | apply Kd.V_alloc | apply Kd.V_drewN | apply Kd.V_drew)); exact HL188_2.out) (Kd.N_base ho29) hb)
                   have n4_ := Aside0.mk (Kd.V_elder' (by (with_reducible repeat (first | apply Kd.V_alloc | apply Kd.V_drewN | apply Kd.V_drew)); exact HL190_2.out) (Kd.N_base ho29) hb)
                   have n5_ := Aside0.mk (Kd.V_elder' (by (with_reducible repeat (first | apply Kd.V_alloc | apply Kd.V_drewN | apply Kd.V_drew)); exact HO198.out) (Kd.N_base ho29) hb)
                   have n6_ := Aside0.mk (Kd.N_lower ho29 (below_size (by repeat (first | (with_reducible first | exact HB.out | apply below_alloc | apply pw_below_drewN | apply below_drew1) | exact HB.out))))
                   have n7_ := Aside0.mk (Kd.C_below (by repeat (first | (with_reducible exact HR186_2.out) | (with_reducible refine Kd.C_alloc ?_ _) | (with_reducible refine Kd.C_drewN ?_ _) | (with_reducible refine Kd.C_drew ?_) | exact HR186_2.out)) hb)
                   have n8_ := Aside0.mk (Kd.C_below (by repeat (first | (with_reducible exact HR187_2.out) | (with_reducible refine Kd.C_alloc ?_ _) | (with_reducible refine Kd.C_drewN ?_ _) | (with_reducible refine Kd.C_drew ?_) | exact HR187_2.out)) hb)
                   have n9_ := Aside0.mk (Kd.C_below (by repeat (first | (with_reducible exact HR188_2.out) | (with_reducible refine Kd.C_alloc ?_ _) | (with_reducible refine Kd.C_drewN ?_ _) | (with_reducible refine Kd.C_drew ?_) | exact HR188_2.out)) hb)
                   have n10_ := Aside0.mk (Kd.C_below (by repeat (first | (with_reducible exact HR190_2.out) | (with_reducible refine Kd.C_alloc ?_ _) | (with_reducible refine Kd.C_drewN ?_ _) | (with_reducible refine Kd.C_drew ?_) | exact HR190_2.out)) hb)
                   have n11_ := Aside0.mk (below_step (by repeat (first | (with_reducible first | exact HB.out | apply below_alloc | apply pw_below_drewN | apply below_drew1) | exact HB.out)) hb)
                   clear HO_0
                   clear HO_5
                   clear HL187_2
                   clear HL188_2
                   clear HL190_2
                   clear HO198
                   clear HR186_2
                   clear HR187_2
                   clear HR188_2
                   clear HR190_2
                   clear HB
                   have HO_0 := n0_
                   have HO_5 := n1_
                   have HL187_2 := n2_
                   have HL188_2 := n3_
                   have HL190_2 := n4_
                   have HO198 := n5_
                   have HO193 := n6_
                   have HR186_2 := n7_
                   have HR187_2 := n8_
                   have HR188_2 := n9_
                   have HR190_2 := n10_
                   have HB := n11_
                   clear n0_ n1_ n2_ n3_ n4_ n5_ n6_ n7_ n8_ n9_ n10_ n11_
                   clear hb ho29
                   refine hK.out _ _ ⟨HS0_, HS1_, HS2_, HS3_, HS4_⟩ (fun hHeld => ?_)
                   clear hK K
                   refine norm_ (a' := ?_) ?_ ?_
                   rotate_left
                   ·show Act.put _ (some 44) _ = _
                    simp only [Act.put, List.setIfInBounds_toArray, List.set_cons_zero, List.set_cons_succ, i64_w, i32_w]
                    rfl
                   refine last_ (i := 8) (N := some 48) #[true, true, true, true, true, true, true, true, true, false] rfl rfl (one_of HT_.out (by kernel_rfl)) (by decide) (fun K hK => ?_)
                   refine Kd.N_append_rows_step k36 (w0 := w) w.heap.size (by rfl) (.tmp 44) (.tmp 47) 22 36 (.agg #[(.int .u32 0), (.int .i64 0), (.slice none 0 0), (.int .i64 0), (.int .i64 0)]) 56 rfl Try.underlying22 info36 rfl (by decide) (by omega) v192 y191 y194 _ _ _ (fun k_ => (P0_ k_ ∨ w.heap.size ≤ k_)) (fun k_ => ((fun k_ => (P0_ k_ ∨ w.heap.size ≤ k_))) k_ ∧ some k_ ≠ (v192 : Value).ownBlock) rfl rfl ?aO ?aR (fun _ hk => hk) ?aF ?aB ?aS ?aL ?_
                   (case aR => exact (by skip; exact Kd.V_F (Kd.V_mono (ok' := (fun k_ => ((fun k_ => (P0_ k_ ∨ w.heap.size ≤ k_))) k_ ∧ some k_ ≠ (v192 : Value).ownBlock)) (HO198.out) (fun k_ hk => ⟨hk.1, hk.2⟩))))
                   (case aB => exact (by repeat (first | (with_reducible first | exact HB.out | apply below_alloc | apply pw_below_drewN | apply below_drew1) | exact HB.out)))
                   (case aF => exact (fun k_ hk => (.inr (Nat.le_trans (below_size (by repeat (first | (with_reducible first | exact HB.out | apply below_alloc | apply pw_below_drewN | apply below_drew1) | exact HB.out))) hk))))
                   (case aO => exact (by (with_reducible repeat (first | apply Kd.N_alloc | apply Kd.N_drewN | apply Kd.N_drew)); exact Kd.N_mono HO193.out (fun _ hk => hk.1)))
                   (case aS => exact (below_size (by repeat (first | (with_reducible first | exact HB.out | apply below_alloc | apply pw_below_drewN | apply below_drew1) | exact HB.out))))
                   (case aL => have := LMc19.out; omega)
                   intro v200 w30 ho hb hg hat
                   rw [← Ny199.out] at ho
                   have n0_ := Aside0.mk (Kd.V_afterv (ok := (fun k_ => (P0_ k_ ∨ w.heap.size ≤ k_) ∧ some k_ ≠ (.slice (some ad188) x5_1.length co6 : Value).ownBlock)) (by (with_reducible repeat (first | apply Kd.V_alloc | apply Kd.V_drewN | apply Kd.V_drew)); exact HO_0.out) hg hat)
                   have n1_ := Aside0.mk (Kd.N_afterv (ok := (fun k_ => (P0_ k_ ∨ w.heap.size ≤ k_))) (by (with_reducible repeat (first | apply Kd.N_alloc | apply Kd.N_drewN | apply Kd.N_drew)); exact HO_5.out) hg hat)
                   have n2_ := Aside0.mk (Kd.V_afterv (ok := (fun k_ => (P0_ k_ ∨ w.heap.size ≤ k_) ∧ some k_ ≠ (.slice (some ad188) x5_1.length co6 : Value).ownBlock)) (by (with_reducible repeat (first | apply Kd.V_alloc | apply Kd.V_drewN | apply Kd.V_drew)); exact HL187_2.out) hg hat)
                   have n3_ := Aside0.mk (Kd.V_afterv (ok := (fun k_ => (P0_ k_ ∨ w.heap.size ≤ k_) ∧ some k_ ≠ (.slice (some ad188) x5_1.length co6 : Value).ownBlock)) (by (with_reducible repeat (first | apply Kd.V_alloc | apply Kd.V_drewN | apply Kd.V_drew)); exact HL188_2.out) hg hat)
                   have n4_ := Aside0.mk (Kd.V_afterv (ok := (fun k_ => (P0_ k_ ∨ w.heap.size ≤ k_) ∧ some k_ ≠ (.slice (some ad188) x5_1.length co6 : Value).ownBlock)) (by (with_reducible repeat (first | apply Kd.V_alloc | apply Kd.V_drewN | apply Kd.V_drew)); exact HL190_2.out) hg hat)
                   have n5_ := Aside0.mk (Kd.V_afterv (ok := (fun k_ => (P0_ k_ ∨ w.heap.size ≤ k_))) (by (with_reducible repeat (first | apply Kd.V_alloc | apply Kd.V_drewN | apply Kd.V_drew)); exact HO198.out) hg hat)
                   have n6_ := Aside0.mk (hb)
                   have n7_ := Aside0.mk (ho)
                   clear HO_0
                   clear HO_5
                   clear HL187_2
                   clear HL188_2
                   clear HL190_2
                   clear HO198
                   clear HB
                   clear HO193
                   have HO_0 := n0_
                   have HO_5 := n1_
                   have HL187_2 := n2_
                   have HL188_2 := n3_
                   have HL190_2 := n4_
                   have HO198 := n5_
                   have HB := n6_
                   have HO201 := n7_
                   clear n0_ n1_ n2_ n3_ n4_ n5_ n6_ n7_
                   clear ho hb hg hat
                   refine hK.out _ _ ?_
                   clear hK K
                   refine norm_ (a' := ?_) ?_ ?_
                   rotate_left
                   ·show Act.put _ (some 48) _ = _
                    simp only [Act.put, List.setIfInBounds_toArray, List.set_cons_zero, List.set_cons_succ, i64_w, i32_w]
                    rfl
                   refine pure_ (i := 9) (N := some 8) (v := ?_) (a' := ?_) #[true, true, true, true, true, true, true, true, true, true] rfl rfl (any_of HT_.out (by kernel_rfl)) (fun _ _ _ h => h) (Or.inl ⟨by rfl, ?_⟩) ?_ ?_
                   rotate_left
                   ·intro w'
                    go_simp
                    with_reducible rfl
                   rotate_left
                   ·simp only [Act.put, List.setIfInBounds_toArray, List.set_cons_zero, List.set_cons_succ, i64_w, i32_w]
                    rfl
                   refine done_ (done_of HT_.out (by kernel_rfl)) ?_
                   try go_wp2_with (first | ((with_reducible refine gate_dst (N := 49) rfl ?_); refine Kd.N_lit k36 _ 36 ?hg (N' := 49) ?hd (xs := ([] : List (S36))) (inner := []) (ok := (fun k_ => (P0_ k_ ∨ w.heap.size ≤ k_) ∧ some k_ ≠ (.slice (some ad188) x5_1.length co6 : Value).ownBlock ∧ some k_ ≠ (v200 : Value).ownBlock)) (okp := (fun k_ => (P0_ k_ ∨ w.heap.size ≤ k_) ∧ some k_ ≠ (.slice (some ad188) x5_1.length co6 : Value).ownBlock ∧ some k_ ≠ (v200 : Value).ownBlock)) ?hr ?hp (fun _ hk => hk) ((show ∀ k_, w30.heap.size ≤ k_ → (fun k_ => (P0_ k_ ∨ w.heap.size ≤ k_) ∧ some k_ ≠ (.slice (some ad188) x5_1.length co6 : Value).ownBlock ∧ some k_ ≠ (v200 : Value).ownBlock) k_ from fun k_ hk => ⟨(.inr (Nat.le_trans (below_size (by repeat (first | (with_reducible first | exact HB.out | apply below_alloc | apply pw_below_drewN | apply below_drew1) | exact HB.out))) hk)), Kd.fresh' (Kd.N_lt (by (with_reducible repeat (first | apply Kd.N_alloc | apply Kd.N_drewN | apply Kd.N_drew)); exact HO_5.out)) k_ hk, Kd.fresh' (Kd.N_lt (by (with_reducible repeat (first | apply Kd.N_alloc | apply Kd.N_drewN | apply Kd.N_drew)); exact HO201.out)) k_ hk⟩) _ (Nat.le_refl _)) (Below.refl _ _) (Nat.le_refl _) (by simp) ?_; (case hd => rfl); (case hg => rfl); (case hr => first | (go_simp; done) | (go_simp; rfl)); (case hp => exact (Reps.none _ _)); intro v203 w31 ho32 hb hg_ hnew_; clear hg_ hnew_; (first | rw [← Ny202.out] at ho32 | (simp only [Int.reduceToNat] at ho32; rw [← Ny202.out] at ho32)); have n0_ := Aside0.mk (Kd.V_elder' (by (with_reducible repeat (first | apply Kd.V_alloc | apply Kd.V_drewN | apply Kd.V_drew)); exact HO_0.out) (Kd.N_base ho32) hb); have n1_ := Aside0.mk (Kd.N_elder' (by (with_reducible repeat (first | apply Kd.N_alloc | apply Kd.N_drewN | apply Kd.N_drew)); exact HO_5.out) (Kd.N_base ho32) hb); have n2_ := Aside0.mk (Kd.V_elder' (by (with_reducible repeat (first | apply Kd.V_alloc | apply Kd.V_drewN | apply Kd.V_drew)); exact HL187_2.out) (Kd.N_base ho32) hb); have n3_ := Aside0.mk (Kd.V_elder' (by (with_reducible repeat (first | apply Kd.V_alloc | apply Kd.V_drewN | apply Kd.V_drew)); exact HL188_2.out) (Kd.N_base ho32) hb); have n4_ := Aside0.mk (Kd.V_elder' (by (with_reducible repeat (first | apply Kd.V_alloc | apply Kd.V_drewN | apply Kd.V_drew)); exact HL190_2.out) (Kd.N_base ho32) hb); have n5_ := Aside0.mk (Kd.V_elder' (by (with_reducible repeat (first | apply Kd.V_alloc | apply Kd.V_drewN | apply Kd.V_drew)); exact HO198.out) (Kd.N_base ho32) hb); have n6_ := Aside0.mk (Kd.N_elder' (by (with_reducible repeat (first | apply Kd.N_alloc | apply Kd.N_drewN | apply Kd.N_drew)); exact HO201.out) (Kd.N_base ho32) hb); have n7_ := Aside0.mk (Kd.N_lower ho32 (below_size (by repeat (first | (with_reducible first | exact HB.out | apply below_alloc | apply pw_below_drewN | apply below_drew1) | exact HB.out)))); have n8_ := Aside0.mk (below_step (by repeat (first | (with_reducible first | exact HB.out | apply below_alloc | apply pw_below_drewN | apply below_drew1) | exact HB.out)) hb); clear HO_0; clear HO_5; clear HL187_2; clear HL188_2; clear HL190_2; clear HO198; clear HO201; clear HB; have HO_0 := n0_; have HO_5 := n1_; have HL187_2 := n2_; have HL188_2 := n3_; have HL190_2 := n4_; have HO198 := n5_; have HO201 := n6_; have HO204 := n7_; have HB := n8_; clear n0_ n1_ n2_ n3_ n4_ n5_ n6_ n7_ n8_; clear hb ho32; have q33 : (x7_2 : Int) ≤ ((x5_1.length : Int) : Int) := of_decide_eq_true (by first | (with_reducible assumption) | assumption); obtain ⟨i033, hi033, _, hsz33, _⟩ := info_parts info36; have hroom33 : x5_1.length ≤ co6 := (Kd.N_reads' HO_5.out).2.1; have hC33 : Kd.F k36 _ _ (some ad188) x5_1.length x5_1 := (Kd.V_at (base := w.heap.size) (Kd.N_V HO_5.out)).2.2; have hcut33 := cut_to (P := Try.prog) 22 36 .i64 Try.underlying22 hi033 (some ad188) x5_1.length co6 x7_2 (of_decide_eq_true (by first | (with_reducible assumption) | assumption)) q33 hroom33; have hr33 := Kd.F_take (m := (x7_2 : Int).toNat) hC33 (by omega); have hy33 : y205.length = (x7_2 : Int).toNat := (by rw [Ny205.out, List.length_take]; omega); rw [← Ny205.out] at hr33; rw [← hy33] at hcut33; have HO209 := Aside0.mk (show Kd.V k36 36 _ w.heap.size _ (.slice (some ad188) y205.length co6) y205 from Kd.V_mk (by omega) hr33); have HC209 := Aside0.mk (show y205.length ≤ co6 from by omega); clear hr33 hC33 hroom33 hi033 hsz33; have KY33 := Aside0.mk hy33; clear hy33; replace q33 := eq_true q33) | ((with_reducible refine gate_builtin (b := .append) (xs := #[.tmp 49, .tmp 52]) rfl ?_); at_builtin; refine Kd.N_append_rows k36 (w0 := w) w.heap.size rfl (.tmp 49) (.tmp 52) 22 36 (.agg #[(.int .u32 0), (.int .i64 0), (.slice none 0 0), (.int .i64 0), (.int .i64 0)]) 56 rfl Try.underlying22 info36 rfl (by decide) (by omega) v203 y202 y205 _ _ _ (fun k_ => (P0_ k_ ∨ w.heap.size ≤ k_) ∧ some k_ ≠ (v200 : Value).ownBlock) (fun k_ => ((fun k_ => (P0_ k_ ∨ w.heap.size ≤ k_) ∧ some k_ ≠ (v200 : Value).ownBlock)) k_ ∧ some k_ ≠ (v203 : Value).ownBlock) rfl rfl ?aO ?aR (fun _ hk => hk) ?aF ?aB ?aS ?aL ?_; (case aR => exact (by skip; exact Kd.V_F (Kd.V_mono (ok' := (fun k_ => ((fun k_ => (P0_ k_ ∨ w.heap.size ≤ k_) ∧ some k_ ≠ (v200 : Value).ownBlock)) k_ ∧ some k_ ≠ (v203 : Value).ownBlock)) (HO209.out) (fun k_ hk => ⟨⟨hk.1.1, hk.1.2⟩, hk.2⟩)))); (case aB => exact (by repeat (first | (with_reducible first | exact HB.out | apply below_alloc | apply pw_below_drewN | apply below_drew1) | exact HB.out))); (case aF => exact (fun k_ hk => ⟨(.inr (Nat.le_trans (below_size (by repeat (first | (with_reducible first | exact HB.out | apply below_alloc | apply pw_below_drewN | apply below_drew1) | exact HB.out))) hk)), Kd.fresh' (Kd.N_lt (by (with_reducible repeat (first | apply Kd.N_alloc | apply Kd.N_drewN | apply Kd.N_drew)); exact HO201.out)) k_ hk⟩)); (case aO => exact (by (with_reducible repeat (first | apply Kd.N_alloc | apply Kd.N_drewN | apply Kd.N_drew)); exact Kd.N_mono HO204.out (fun _ hk => ⟨hk.1, hk.2.2⟩))); (case aS => exact (below_size (by repeat (first | (with_reducible first | exact HB.out | apply below_alloc | apply pw_below_drewN | apply below_drew1) | exact HB.out)))); (case aL => have := LMc22.out; omega); intro v211 w34 ho hb hg hat; rw [← Ny210.out] at ho; have n0_ := Aside0.mk (Kd.V_afterv (ok := (fun k_ => (P0_ k_ ∨ w.heap.size ≤ k_) ∧ some k_ ≠ (.slice (some ad188) x5_1.length co6 : Value).ownBlock ∧ some k_ ≠ (v200 : Value).ownBlock)) (by (with_reducible repeat (first | apply Kd.V_alloc | apply Kd.V_drewN | apply Kd.V_drew)); exact Kd.V_mono HO_0.out (fun _ hk => ⟨⟨hk.1.1.1, ⟨hk.1.1.2, hk.1.2⟩⟩, hk.2⟩)) hg hat); have n1_ := Aside0.mk (Kd.N_afterv (ok := (fun k_ => (P0_ k_ ∨ w.heap.size ≤ k_) ∧ some k_ ≠ (v200 : Value).ownBlock)) (by (with_reducible repeat (first | apply Kd.N_alloc | apply Kd.N_drewN | apply Kd.N_drew)); exact HO_5.out) hg hat); have n2_ := Aside0.mk (Kd.V_afterv (ok := (fun k_ => (P0_ k_ ∨ w.heap.size ≤ k_) ∧ some k_ ≠ (.slice (some ad188) x5_1.length co6 : Value).ownBlock ∧ some k_ ≠ (v200 : Value).ownBlock)) (by (with_reducible repeat (first | apply Kd.V_alloc | apply Kd.V_drewN | apply Kd.V_drew)); exact Kd.V_mono HL187_2.out (fun _ hk => ⟨⟨hk.1.1.1, ⟨hk.1.1.2, hk.1.2⟩⟩, hk.2⟩)) hg hat); have n3_ := Aside0.mk (Kd.V_afterv (ok := (fun k_ => (P0_ k_ ∨ w.heap.size ≤ k_) ∧ some k_ ≠ (.slice (some ad188) x5_1.length co6 : Value).ownBlock ∧ some k_ ≠ (v200 : Value).ownBlock)) (by (with_reducible repeat (first | apply Kd.V_alloc | apply Kd.V_drewN | apply Kd.V_drew)); exact Kd.V_mono HL188_2.out (fun _ hk => ⟨⟨hk.1.1.1, ⟨hk.1.1.2, hk.1.2⟩⟩, hk.2⟩)) hg hat); have n4_ := Aside0.mk (Kd.V_afterv (ok := (fun k_ => (P0_ k_ ∨ w.heap.size ≤ k_) ∧ some k_ ≠ (.slice (some ad188) x5_1.length co6 : Value).ownBlock ∧ some k_ ≠ (v200 : Value).ownBlock)) (by (with_reducible repeat (first | apply Kd.V_alloc | apply Kd.V_drewN | apply Kd.V_drew)); exact Kd.V_mono HL190_2.out (fun _ hk => ⟨⟨hk.1.1.1, ⟨hk.1.1.2, hk.1.2⟩⟩, hk.2⟩)) hg hat); have n5_ := Aside0.mk (Kd.V_afterv (ok := (fun k_ => (P0_ k_ ∨ w.heap.size ≤ k_) ∧ some k_ ≠ (v200 : Value).ownBlock)) (by (with_reducible repeat (first | apply Kd.V_alloc | apply Kd.V_drewN | apply Kd.V_drew)); exact HO198.out) hg hat); have n6_ := Aside0.mk (Kd.N_afterv (ok := (fun k_ => (P0_ k_ ∨ w.heap.size ≤ k_))) (by (with_reducible repeat (first | apply Kd.N_alloc | apply Kd.N_drewN | apply Kd.N_drew)); exact HO201.out) hg hat); have n7_ := Aside0.mk (Kd.V_afterv (ok := (fun k_ => (P0_ k_ ∨ w.heap.size ≤ k_) ∧ some k_ ≠ (v200 : Value).ownBlock)) (by (with_reducible repeat (first | apply Kd.V_alloc | apply Kd.V_drewN | apply Kd.V_drew)); exact HO209.out) hg hat); have n8_ := Aside0.mk (hb); have n9_ := Aside0.mk (ho); clear HO_0; clear HO_5; clear HL187_2; clear HL188_2; clear HL190_2; clear HO198; clear HO201; clear HO209; clear HB; clear HO204; have HO_0 := n0_; have HO_5 := n1_; have HL187_2 := n2_; have HL188_2 := n3_; have HL190_2 := n4_; have HO198 := n5_; have HO201 := n6_; have HO209 := n7_; have HB := n8_; have HO212 := n9_; clear n0_ n1_ n2_ n3_ n4_ n5_ n6_ n7_ n8_ n9_; clear ho hb hg hat; obtain ⟨Ao36, co36, eo36⟩ := Kd.N_slice HO201.out; subst eo36) | ((with_reducible refine gate_builtin (b := .append) (xs := #[.tmp 53, .tmp 54]) rfl ?_); at_builtin; refine Kd.N_append_rows k36 (w0 := w) w.heap.size rfl (.tmp 53) (.tmp 54) 22 36 (.agg #[(.int .u32 0), (.int .i64 0), (.slice none 0 0), (.int .i64 0), (.int .i64 0)]) 56 rfl Try.underlying22 info36 rfl (by decide) (by omega) v211 y210 y199 _ _ _ (fun k_ => (P0_ k_ ∨ w.heap.size ≤ k_)) (fun k_ => ((fun k_ => (P0_ k_ ∨ w.heap.size ≤ k_))) k_ ∧ some k_ ≠ (v211 : Value).ownBlock) rfl rfl ?aO ?aR (fun _ hk => hk) ?aF ?aB ?aS ?aL ?_; (case aR => exact (by skip; exact Kd.N_F (Kd.N_mono (ok' := (fun k_ => ((fun k_ => (P0_ k_ ∨ w.heap.size ≤ k_))) k_ ∧ some k_ ≠ (v211 : Value).ownBlock)) (HO201.out) (fun k_ hk => ⟨hk.1, hk.2⟩)))); (case aB => exact (by repeat (first | (with_reducible first | exact HB.out | apply below_alloc | apply pw_below_drewN | apply below_drew1) | exact HB.out))); (case aF => exact (fun k_ hk => (.inr (Nat.le_trans (below_size (by repeat (first | (with_reducible first | exact HB.out | apply below_alloc | apply pw_below_drewN | apply below_drew1) | exact HB.out))) hk)))); (case aO => exact (by (with_reducible repeat (first | apply Kd.N_alloc | apply Kd.N_drewN | apply Kd.N_drew)); exact Kd.N_mono HO212.out (fun _ hk => hk.1))); (case aS => exact (below_size (by repeat (first | (with_reducible first | exact HB.out | apply below_alloc | apply pw_below_drewN | apply below_drew1) | exact HB.out)))); (case aL => have := LMc23.out; omega); intro v214 w35 ho hb hg hat; rw [← Ny213.out] at ho; have n0_ := Aside0.mk (Kd.V_afterv (ok := (fun k_ => (P0_ k_ ∨ w.heap.size ≤ k_) ∧ some k_ ≠ (.slice (some ad188) x5_1.length co6 : Value).ownBlock ∧ some k_ ≠ (.slice Ao36 y199.length co36 : Value).ownBlock)) (by (with_reducible repeat (first | apply Kd.V_alloc | apply Kd.V_drewN | apply Kd.V_drew)); exact HO_0.out) hg hat); have n1_ := Aside0.mk (Kd.N_afterv (ok := (fun k_ => (P0_ k_ ∨ w.heap.size ≤ k_) ∧ some k_ ≠ (.slice Ao36 y199.length co36 : Value).ownBlock)) (by (with_reducible repeat (first | apply Kd.N_alloc | apply Kd.N_drewN | apply Kd.N_drew)); exact HO_5.out) hg hat); have n2_ := Aside0.mk (Kd.V_afterv (ok := (fun k_ => (P0_ k_ ∨ w.heap.size ≤ k_) ∧ some k_ ≠ (.slice (some ad188) x5_1.length co6 : Value).ownBlock ∧ some k_ ≠ (.slice Ao36 y199.length co36 : Value).ownBlock)) (by (with_reducible repeat (first | apply Kd.V_alloc | apply Kd.V_drewN | apply Kd.V_drew)); exact HL187_2.out) hg hat); have n3_ := Aside0.mk (Kd.V_afterv (ok := (fun k_ => (P0_ k_ ∨ w.heap.size ≤ k_) ∧ some k_ ≠ (.slice (some ad188) x5_1.length co6 : Value).ownBlock ∧ some k_ ≠ (.slice Ao36 y199.length co36 : Value).ownBlock)) (by (with_reducible repeat (first | apply Kd.V_alloc | apply Kd.V_drewN | apply Kd.V_drew)); exact HL188_2.out) hg hat); have n4_ := Aside0.mk (Kd.V_afterv (ok := (fun k_ => (P0_ k_ ∨ w.heap.size ≤ k_) ∧ some k_ ≠ (.slice (some ad188) x5_1.length co6 : Value).ownBlock ∧ some k_ ≠ (.slice Ao36 y199.length co36 : Value).ownBlock)) (by (with_reducible repeat (first | apply Kd.V_alloc | apply Kd.V_drewN | apply Kd.V_drew)); exact HL190_2.out) hg hat); have n5_ := Aside0.mk (Kd.V_afterv (ok := (fun k_ => (P0_ k_ ∨ w.heap.size ≤ k_) ∧ some k_ ≠ (.slice Ao36 y199.length co36 : Value).ownBlock)) (by (with_reducible repeat (first | apply Kd.V_alloc | apply Kd.V_drewN | apply Kd.V_drew)); exact HO198.out) hg hat); have n6_ := Aside0.mk (Kd.N_afterv (ok := (fun k_ => (P0_ k_ ∨ w.heap.size ≤ k_))) (by (with_reducible repeat (first | apply Kd.N_alloc | apply Kd.N_drewN | apply Kd.N_drew)); exact HO201.out) hg hat); have n7_ := Aside0.mk (Kd.V_afterv (ok := (fun k_ => (P0_ k_ ∨ w.heap.size ≤ k_) ∧ some k_ ≠ (.slice Ao36 y199.length co36 : Value).ownBlock)) (by (with_reducible repeat (first | apply Kd.V_alloc | apply Kd.V_drewN | apply Kd.V_drew)); exact HO209.out) hg hat); have n8_ := Aside0.mk (hb); have n9_ := Aside0.mk (ho); clear HO_0; clear HO_5; clear HL187_2; clear HL188_2; clear HL190_2; clear HO198; clear HO201; clear HO209; clear HB; clear HO212; have HO_0 := n0_; have HO_5 := n1_; have HL187_2 := n2_; have HL188_2 := n3_; have HL190_2 := n4_; have HO198 := n5_; have HO201 := n6_; have HO209 := n7_; have HB := n8_; have HO215 := n9_; clear n0_ n1_ n2_ n3_ n4_ n5_ n6_ n7_ n8_ n9_; clear ho hb hg hat))
                   go_roundg k2
                   case measure => have := HK1.out; have := HK2.out; omega
                   case rel => exact ⟨(y213), (wrap64 (x6_1 + 1)), (by first | rfl | (simp; done) | (simp [*]; done)), H', ⟨by have := HK1.out; have := HK2.out; omega⟩, ⟨by (with_reducible repeat (first | apply Kd.V_alloc | apply Kd.V_drewN | apply Kd.V_drew)); exact Kd.V_mono HO_0.out (fun _ hk => ⟨hk.1.1, hk.2⟩)⟩, ⟨by (with_reducible repeat (first | apply Kd.N_alloc | apply Kd.N_drewN | apply Kd.N_drew)); exact HO215.out⟩, ⟨by repeat (first | (with_reducible first | exact HB.out | apply below_alloc | apply pw_below_drewN | apply below_drew1) | exact HB.out)⟩⟩
                  ·rw [if_neg c23] at H
                   exact absurd H (by simp)
                 ·rw [if_neg c22] at H
                  exact absurd H (by simp)
                ·rw [if_neg c19] at H
                 exact absurd H (by simp)
               ·rw [if_neg c18] at H
                exact absurd H (by simp)
              ·rw [if_neg c17] at H
               exact absurd H (by simp)
            ·rw [if_neg c12] at H
             exact absurd H (by simp)
           ·rw [if_neg c11] at H
            exact absurd H (by simp)
          ·rw [if_neg c9] at H
           exact absurd H (by simp)
         ·rw [if_neg c8] at H
          exact absurd H (by simp)
        ·rw [if_neg c7] at H
         have c7b0 : decide (0 < x7_2) = false := decide_eq_false c7
         clear c7
         by_cases c37 : 0 ≤ x6_1
         ·rw [if_pos c37] at H
          have c37b0 : decide (0 ≤ x6_1) = true := decide_eq_true c37
          clear c37
          by_cases c38 : x6_1 < (l0.length : Int)
          ·rw [if_pos c38] at H
           have c38b0 : decide (x6_1 < (l0.length : Int)) = true := decide_eq_true c38
           clear c38
           obtain ⟨y217, hy217⟩ : ∃ y_ : List (S36), y_ = (([(⟨(rd_T36 l0 x6_1).f0, (rd_T36 l0 x6_1).f1, (rd_T36 l0 x6_1).f2, (rd_T36 l0 x6_1).f3, (rd_T36 l0 x6_1).f4⟩ : S36)] : List (S36))) := ⟨_, rfl⟩
           replace H : (if 0 ≤ x7_2 then (if x7_2 ≤ (x5_1.length : Int) then ((some (x5_1.drop (x7_2 : Int).toNat : List (S36))).bind fun y220 => (if y217.length + y220.length < 2513169434916 then ((some (y217 ++ y220 : List (S36))).bind fun y225 => ((some (([] : List (S36)) : List (S36))).bind fun y228 => ((some (x5_1.take (x7_2 : Int).toNat : List (S36))).bind fun y231 => (if y228.length + y231.length < 2513169434916 then ((some (y228 ++ y231 : List (S36))).bind fun y236 => (if y236.length + y225.length < 2513169434916 then (tiltyardref17_Mode.l0 k2 l0 a1 (y236 ++ y225) (wrap64 (x6_1 + 1))) else (none))) else (none))))) else (none))) else (none)) else (none)) = some r := by first | (rw [hy217]; with_reducible exact H) | (have H2_ := (Option.bind_some _ _).symm.trans H; rw [hy217]; with_reducible exact H2_) | (have H2_ := (Option.bind_some _ _).symm.trans H; with_reducible exact H2_) | with_reducible exact H | (rw [hy217]; exact H) | exact H
           have Ny217 := Aside0.mk hy217
           clear hy217
           by_cases c39 : 0 ≤ x7_2
           ·rw [if_pos c39] at H
            have c39b0 := eq_true c39
            have c39b1 : decide (0 ≤ x7_2) = true := decide_eq_true c39
            clear c39
            by_cases c40 : x7_2 ≤ (x5_1.length : Int)
            ·rw [if_pos c40] at H
             have c40b0 := eq_true c40
             have c40b1 : decide (x7_2 ≤ (x5_1.length : Int)) = true := decide_eq_true c40
             clear c40
             obtain ⟨y220, hy220⟩ : ∃ y_ : List (S36), y_ = (x5_1.drop (x7_2 : Int).toNat) := ⟨_, rfl⟩
             replace H : (if y217.length + y220.length < 2513169434916 then ((some (y217 ++ y220 : List (S36))).bind fun y225 => ((some (([] : List (S36)) : List (S36))).bind fun y228 => ((some (x5_1.take (x7_2 : Int).toNat : List (S36))).bind fun y231 => (if y228.length + y231.length < 2513169434916 then ((some (y228 ++ y231 : List (S36))).bind fun y236 => (if y236.length + y225.length < 2513169434916 then (tiltyardref17_Mode.l0 k2 l0 a1 (y236 ++ y225) (wrap64 (x6_1 + 1))) else (none))) else (none))))) else (none)) = some r := by first | (rw [hy220]; with_reducible exact H) | (have H2_ := (Option.bind_some _ _).symm.trans H; rw [hy220]; with_reducible exact H2_) | (have H2_ := (Option.bind_some _ _).symm.trans H; with_reducible exact H2_) | with_reducible exact H | (rw [hy220]; exact H) | exact H
             have Ny220 := Aside0.mk hy220
             clear hy220
             by_cases c41 : y217.length + y220.length < 2513169434916
             ·rw [if_pos c41] at H
              have LMc41 := Aside0.mk c41
              clear c41
              obtain ⟨y225, hy225⟩ : ∃ y_ : List (S36), y_ = (y217 ++ y220) := ⟨_, rfl⟩
              replace H : ((some (([] : List (S36)) : List (S36))).bind fun y228 => ((some (x5_1.take (x7_2 : Int).toNat : List (S36))).bind fun y231 => (if y228.length + y231.length < 2513169434916 then ((some (y228 ++ y231 : List (S36))).bind fun y236 => (if y236.length + y225.length < 2513169434916 then (tiltyardref17_Mode.l0 k2 l0 a1 (y236 ++ y225) (wrap64 (x6_1 + 1))) else (none))) else (none)))) = some r := by first | (rw [hy225]; with_reducible exact H) | (have H2_ := (Option.bind_some _ _).symm.trans H; rw [hy225]; with_reducible exact H2_) | (have H2_ := (Option.bind_some _ _).symm.trans H; with_reducible exact H2_) | with_reducible exact H | (rw [hy225]; exact H) | exact H
              have Ny225 := Aside0.mk hy225
              clear hy225
              obtain ⟨y228, hy228⟩ : ∃ y_ : List (S36), y_ = (([] : List (S36))) := ⟨_, rfl⟩
              replace H : ((some (x5_1.take (x7_2 : Int).toNat : List (S36))).bind fun y231 => (if y228.length + y231.length < 2513169434916 then ((some (y228 ++ y231 : List (S36))).bind fun y236 => (if y236.length + y225.length < 2513169434916 then (tiltyardref17_Mode.l0 k2 l0 a1 (y236 ++ y225) (wrap64 (x6_1 + 1))) else (none))) else (none))) = some r := by first | (rw [hy228]; with_reducible exact H) | (have H2_ := (Option.bind_some _ _).symm.trans H; rw [hy228]; with_reducible exact H2_) | (have H2_ := (Option.bind_some _ _).symm.trans H; with_reducible exact H2_) | with_reducible exact H | (rw [hy228]; exact H) | exact H
              have Ny228 := Aside0.mk hy228
              clear hy228
              have c42b0 := eq_true (of_decide_eq_true (by first | (with_reducible assumption) | assumption) : 0 ≤ x7_2)
              have c43b0 := eq_true (of_decide_eq_true (by first | (with_reducible assumption) | assumption) : x7_2 ≤ (x5_1.length : Int))
              obtain ⟨y231, hy231⟩ : ∃ y_ : List (S36), y_ = (x5_1.take (x7_2 : Int).toNat) := ⟨_, rfl⟩
              replace H : (if y228.length + y231.length < 2513169434916 then ((some (y228 ++ y231 : List (S36))).bind fun y236 => (if y236.length + y225.length < 2513169434916 then (tiltyardref17_Mode.l0 k2 l0 a1 (y236 ++ y225) (wrap64 (x6_1 + 1))) else (none))) else (none)) = some r := by first | (rw [hy231]; with_reducible exact H) | (have H2_ := (Option.bind_some _ _).symm.trans H; rw [hy231]; with_reducible exact H2_) | (have H2_ := (Option.bind_some _ _).symm.trans H; with_reducible exact H2_) | with_reducible exact H | (rw [hy231]; exact H) | exact H
              have Ny231 := Aside0.mk hy231
              clear hy231
              by_cases c44 : y228.length + y231.length < 2513169434916
              ·rw [if_pos c44] at H
               have LMc44 := Aside0.mk c44
               clear c44
               obtain ⟨y236, hy236⟩ : ∃ y_ : List (S36), y_ = (y228 ++ y231) := ⟨_, rfl⟩
               replace H : (if y236.length + y225.length < 2513169434916 then (tiltyardref17_Mode.l0 k2 l0 a1 (y236 ++ y225) (wrap64 (x6_1 + 1))) else (none)) = some r := by first | (rw [hy236]; with_reducible exact H) | (have H2_ := (Option.bind_some _ _).symm.trans H; rw [hy236]; with_reducible exact H2_) | (have H2_ := (Option.bind_some _ _).symm.trans H; with_reducible exact H2_) | with_reducible exact H | (rw [hy236]; exact H) | exact H
               have Ny236 := Aside0.mk hy236
               clear hy236
               by_cases c45 : y236.length + y225.length < 2513169434916
               ·rw [if_pos c45] at H
                have LMc45 := Aside0.mk c45
                clear c45
                obtain ⟨y239, hy239⟩ : ∃ y_ : List (S36), y_ = (y236 ++ y225) := ⟨_, rfl⟩
                replace H : (tiltyardref17_Mode.l0 k2 l0 a1 y239 (wrap64 (x6_1 + 1))) = some r := by first | (rw [hy239]; with_reducible exact H) | (have H2_ := (Option.bind_some _ _).symm.trans H; rw [hy239]; with_reducible exact H2_) | (have H2_ := (Option.bind_some _ _).symm.trans H; with_reducible exact H2_) | with_reducible exact H | (rw [hy239]; exact H) | exact H
                have Ny239 := Aside0.mk hy239
                clear hy239
                have H' := Aside0.mk H
                clear H
                try go_wp2
                have n0_ := Aside0.mk (Kd.V_drew HO_0.out)
                have n1_ := Aside0.mk (Kd.N_drew HO_5.out)
                have n2_ := Aside0.mk (Kd.C_drew HR186_2.out)
                have n3_ := Aside0.mk (below_drew1 HB.out)
                clear HO_0
                clear HO_5
                clear HR186_2
                clear HB
                have HO_0 := n0_
                have HO_5 := n1_
                have HR186_2 := n2_
                have HB := n3_
                clear n0_ n1_ n2_ n3_
                refine start_ (n := 14) (S := fun w' => True) (ds := []) #[false, false, false, false, false, false, false, false, false, false, false, false, false, false] (by kernel_rfl) rfl rfl trivial (fun hHeld => ?_); refine with_tabW tiltyardref17_Mode.tab7 tiltyardref17_Mode.bits7 (fun HT_ HW_ => ?_)
                generalize wr.drew = w46 at HO_0 HO_5 HR186_2 HB hHeld ⊢
                refine pure_ (i := 0) (N := some 24) (v := ?_) (a' := ?_) #[true, false, false, false, false, false, false, false, false, false, false, false, false, false] rfl rfl (any_of HT_.out (by kernel_rfl)) (fun _ _ _ h => h) (Or.inl ⟨by rfl, ?_⟩) ?_ ?_
                rotate_left
                ·intro w'
                 go_simp
                 with_reducible rfl
                rotate_left
                ·simp only [Act.put, List.setIfInBounds_toArray, List.set_cons_zero, List.set_cons_succ, i64_w, i32_w]
                 rfl
                refine pure_ (i := 1) (N := some 25) (v := ?_) (a' := ?_) #[true, true, false, false, false, false, false, false, false, false, false, false, false, false] rfl rfl (any_of HT_.out (by kernel_rfl)) (fun _ _ _ h => h) (Or.inl ⟨by rfl, ?_⟩) ?_ ?_
                rotate_left
                ·intro w'
                 go_simp
                 with_reducible rfl
                rotate_left
                ·simp only [Act.put, List.setIfInBounds_toArray, List.set_cons_zero, List.set_cons_succ, i64_w, i32_w]
                 rfl
                refine pure_ (i := 2) (N := some 26) (v := ?_) (a' := ?_) #[true, true, true, false, false, false, false, false, false, false, false, false, false, false] rfl rfl (any_of HT_.out (by kernel_rfl)) (fun _ _ _ h => h) (Or.inl ⟨by rfl, ?_⟩) ?_ ?_
                rotate_left
                ·intro w'
                 go_simp
                 with_reducible rfl
                rotate_left
                ·simp only [Act.put, List.setIfInBounds_toArray, List.set_cons_zero, List.set_cons_succ, i64_w, i32_w]
                 rfl
                refine pure_ (i := 3) (N := some 27) (v := undef) (a' := ?_) #[true, true, true, true, false, false, false, false, false, false, false, false, false, false] rfl rfl (any_of HT_.out (by kernel_rfl)) (fun _ _ _ h => h) (Or.inr ⟨by rfl, rfl⟩) ?_ ?_
                rotate_left
                ·simp only [Act.put, List.setIfInBounds_toArray, List.set_cons_zero, List.set_cons_succ, i64_w, i32_w]
                 rfl
                refine pure_ (i := 4) (N := some 28) (v := undef) (a' := ?_) #[true, true, true, true, true, false, false, false, false, false, false, false, false, false] rfl rfl (any_of HT_.out (by kernel_rfl)) (fun _ _ _ h => h) (Or.inr ⟨by rfl, rfl⟩) ?_ ?_
                rotate_left
                ·simp only [Act.put, List.setIfInBounds_toArray, List.set_cons_zero, List.set_cons_succ, i64_w, i32_w]
                 rfl
                refine pure_ (i := 5) (N := some 29) (v := undef) (a' := ?_) #[true, true, true, true, true, true, false, false, false, false, false, false, false, false] rfl rfl (any_of HT_.out (by kernel_rfl)) (fun _ _ _ h => h) (Or.inr ⟨by rfl, rfl⟩) ?_ ?_
                rotate_left
                ·simp only [Act.put, List.setIfInBounds_toArray, List.set_cons_zero, List.set_cons_succ, i64_w, i32_w]
                 rfl
                refine pure_ (i := 6) (N := some 30) (v := undef) (a' := ?_) #[true, true, true, true, true, true, true, false, false, false, false, false, false, false] rfl rfl (any_of HT_.out (by kernel_rfl)) (fun _ _ _ h => h) (Or.inr ⟨by rfl, rfl⟩) ?_ ?_
                rotate_left
                ·simp only [Act.put, List.setIfInBounds_toArray, List.set_cons_zero, List.set_cons_succ, i64_w, i32_w]
                 rfl
                refine pure_ (i := 7) (N := some 31) (v := undef) (a' := ?_) #[true, true, true, true, true, true, true, true, false, false, false, false, false, false] rfl rfl (any_of HT_.out (by kernel_rfl)) (fun _ _ _ h => h) (Or.inr ⟨by rfl, rfl⟩) ?_ ?_
                rotate_left
                ·simp only [Act.put, List.setIfInBounds_toArray, List.set_cons_zero, List.set_cons_succ, i64_w, i32_w]
                 rfl
                refine pure_ (i := 8) (N := some 32) (v := undef) (a' := ?_) #[true, true, true, true, true, true, true, true, true, false, false, false, false, false] rfl rfl (any_of HT_.out (by kernel_rfl)) (fun _ _ _ h => h) (Or.inr ⟨by rfl, rfl⟩) ?_ ?_
                rotate_left
                ·simp only [Act.put, List.setIfInBounds_toArray, List.set_cons_zero, List.set_cons_succ, i64_w, i32_w]
                 rfl
                refine pure_ (i := 9) (N := some 33) (v := undef) (a' := ?_) #[true, true, true, true, true, true, true, true, true, true, false, false, false, false] rfl rfl (any_of HT_.out (by kernel_rfl)) (fun _ _ _ h => h) (Or.inr ⟨by rfl, rfl⟩) ?_ ?_
                rotate_left
                ·simp only [Act.put, List.setIfInBounds_toArray, List.set_cons_zero, List.set_cons_succ, i64_w, i32_w]
                 rfl
                refine pure_ (i := 10) (N := some 34) (v := undef) (a' := ?_) #[true, true, true, true, true, true, true, true, true, true, true, false, false, false] rfl rfl (any_of HT_.out (by kernel_rfl)) (fun _ _ _ h => h) (Or.inr ⟨by rfl, rfl⟩) ?_ ?_
                rotate_left
                ·simp only [Act.put, List.setIfInBounds_toArray, List.set_cons_zero, List.set_cons_succ, i64_w, i32_w]
                 rfl
                refine pure_ (i := 11) (N := some 35) (v := undef) (a' := ?_) #[true, true, true, true, true, true, true, true, true, true, true, true, false, false] rfl rfl (any_of HT_.out (by kernel_rfl)) (fun _ _ _ h => h) (Or.inr ⟨by rfl, rfl⟩) ?_ ?_
                rotate_left
                ·simp only [Act.put, List.setIfInBounds_toArray, List.set_cons_zero, List.set_cons_succ, i64_w, i32_w]
                 rfl
                refine pure_ (i := 12) (N := some 36) (v := undef) (a' := ?_) #[true, true, true, true, true, true, true, true, true, true, true, true, true, false] rfl rfl (any_of HT_.out (by kernel_rfl)) (fun _ _ _ h => h) (Or.inr ⟨by rfl, rfl⟩) ?_ ?_
                rotate_left
                ·simp only [Act.put, List.setIfInBounds_toArray, List.set_cons_zero, List.set_cons_succ, i64_w, i32_w]
                 rfl
                refine pure_ (i := 13) (N := some 37) (v := ?_) (a' := ?_) #[true, true, true, true, true, true, true, true, true, true, true, true, true, true] rfl rfl (any_of HT_.out (by kernel_rfl)) (fun _ _ _ h => h) (Or.inl ⟨by rfl, ?_⟩) ?_ ?_
                rotate_left
                ·intro w'
                 go_simp
                 with_reducible rfl
                rotate_left
                ·simp only [Act.put, List.setIfInBounds_toArray, List.set_cons_zero, List.set_cons_succ, i64_w, i32_w]
                 rfl
                refine done_ (done_of HT_.out (by kernel_rfl)) ?_
                try go_wp2
                have n0_ := Aside0.mk (Kd.V_drew HO_0.out)
                have n1_ := Aside0.mk (Kd.N_drew HO_5.out)
                have n2_ := Aside0.mk (Kd.C_drew HR186_2.out)
                have n3_ := Aside0.mk (below_drew1 HB.out)
                clear HO_0
                clear HO_5
                clear HR186_2
                clear HB
                have HO_0 := n0_
                have HO_5 := n1_
                have HR186_2 := n2_
                have HB := n3_
                clear n0_ n1_ n2_ n3_
                have p216 : 0 ≤ (x6_1 : Int) := of_decide_eq_true (by first | (with_reducible assumption) | assumption)
                have q216 : x6_1 < (l0.length : Int) := of_decide_eq_true (by first | (with_reducible assumption) | assumption)
                obtain ⟨ad216, A216_2, c216_2, e216, hx216_0, hx216_1, hx216_2, hx216_3, hx216_4, hl216_2, hi216_2⟩ := at_T36 (Kd.V_reads' HO_0.out).2.2 x6_1 p216 q216
                obtain rfl : ad186 = ad216 := (by injection e216)
                obtain ⟨ce216, hce216, hMe216, hcc216⟩ := Kd.V_get HO_0.out z36 x6_1 p216 (by first | exact q216 | exact of_decide_eq_true (by first | (with_reducible assumption) | assumption) | (have e_ := (Kd.V_reads' HO_0.out).1; omega))
                obtain ⟨ua216_2, uc216_2, rfl, ul216_2, ge216_2⟩ := k36_openF hMe216
                have hv216_2 := hcc216 2 _ rfl
                rw [add_field _ _ 2 (by omega)] at hv216_2
                replace hv216_2 := Option.some.inj (hv216_2.symm.trans hx216_2)
                injection hv216_2 with hva_ hvn_ hvc_
                rw [hva_] at ge216_2
                rw [hvc_] at ul216_2
                have HL216_2 := Aside0.mk (show Kd.V (Kd.int .u32) 33 _ w.heap.size _ _ ((rd_T36 l0 x6_1).f2) from Kd.V_mk ul216_2 ge216_2)
                clear hva_ hvn_ hvc_ ge216_2 ul216_2
                clear hcc216 hce216
                have HR216_2 := Aside0.mk hi216_2
                have HC216_2 := Aside0.mk hl216_2
                clear hi216_2 hl216_2
                replace p216 := eq_true p216
                replace q216 := eq_true q216
                have q48 : (x7_2 : Int) ≤ ((x5_1.length : Int) : Int) := of_decide_eq_true (by first | (with_reducible assumption) | assumption)
                obtain ⟨i048, hi048, _, hsz48, _⟩ := info_parts info36
                have hroom48 : x5_1.length ≤ co6 := (Kd.N_reads' HO_5.out).2.1
                have hC48 : Kd.F k36 _ _ Ao6 x5_1.length x5_1 := (Kd.V_at (base := w.heap.size) (Kd.N_V HO_5.out)).2.2
                have q048 : (0 : Int) ≤ (x7_2 : Int) := of_decide_eq_true (by first | (with_reducible assumption) | assumption)
                have hcut48 := cut_from (P := Try.prog) 22 36 .i64 Try.underlying22 hi048 5 hsz48 Ao6 x5_1.length co6 x7_2 q048 q48
                have hr48 := Kd.F_cut (m := (x7_2 : Int).toNat) (c := co6) hC48 (by omega) hroom48
                obtain ⟨A48, hA48⟩ : ∃ A1, A1 = (if co6 = (x7_2 : Int).toNat then Ao6 else (Ao6 : Option Addr).map (·.add ((x7_2 : Int).toNat * 5))) := ⟨_, rfl⟩
                obtain ⟨c48, hc48⟩ : ∃ c1, c1 = co6 - (x7_2 : Int).toNat := ⟨_, rfl⟩
                have hy48 : y220.length = x5_1.length - (x7_2 : Int).toNat := (by rw [Ny220.out, List.length_drop] <;> omega)
                rw [show (x5_1).drop (x7_2 : Int).toNat = y220 from Ny220.out.symm] at hr48
                replace hr48 : Kd.F k36 _ _ A48 y220.length y220 := (by rw [hA48]; exact hr48)
                rw [← hy48, ← hA48, ← hc48] at hcut48
                have HO224 := Aside0.mk (show Kd.V k36 36 _ w.heap.size _ (.slice A48 y220.length c48) y220 from Kd.V_mk (by rw [hy48, hc48]; exact Nat.sub_le_sub_right hroom48 _) hr48)
                have HC224 := Aside0.mk (show y220.length ≤ c48 from by rw [hy48, hc48]; exact Nat.sub_le_sub_right hroom48 _)
                clear hr48 hC48 hroom48 hi048 hsz48 hc48
                have KY48 := Aside0.mk hy48
                have KA48 := Aside0.mk hA48
                clear hy48 hA48
                replace q48 := eq_true q48
                refine start_ (n := 10) (S := fun w' => w'.cell? (ad186.add ((x6_1).toNat * 5)) = some (.int .u32 ((rd_T36 l0 x6_1).f0)) ∧ w'.cell? ⟨(ad186.add ((x6_1).toNat * 5)).block, (ad186.add ((x6_1).toNat * 5)).off + 1, none⟩ = some (.int .i64 ((rd_T36 l0 x6_1).f1)) ∧ w'.cell? ⟨(ad186.add ((x6_1).toNat * 5)).block, (ad186.add ((x6_1).toNat * 5)).off + 2, none⟩ = some (.slice A216_2 ((rd_T36 l0 x6_1).f2).length c216_2) ∧ w'.cell? ⟨(ad186.add ((x6_1).toNat * 5)).block, (ad186.add ((x6_1).toNat * 5)).off + 3, none⟩ = some (.int .i64 ((rd_T36 l0 x6_1).f3)) ∧ w'.cell? ⟨(ad186.add ((x6_1).toNat * 5)).block, (ad186.add ((x6_1).toNat * 5)).off + 4, none⟩ = some (.int .i64 ((rd_T36 l0 x6_1).f4))) (ds := [8]) #[false, false, false, false, false, false, false, false, false, false] (by kernel_rfl) rfl rfl ⟨hx216_0, hx216_1, hx216_2, hx216_3, hx216_4⟩ (fun hHeld => ?_); refine with_tabW tiltyardref17_Mode.tab9 tiltyardref17_Mode.bits9 (fun HT_ HW_ => ?_)
                generalize w46.drew = w47 at HO_0 HO_5 HR186_2 HB HL216_2 HO224 HR216_2 hx216_0 hx216_1 hx216_2 hx216_3 hx216_4 hHeld ⊢
                refine pure_ (i := 0) (N := some 40) (v := ?_) (a' := ?_) #[true, false, false, false, false, false, false, false, false, false] rfl rfl (any_of HT_.out (by kernel_rfl)) (fun _ _ _ h => h) (Or.inl ⟨by rfl, ?_⟩) ?_ ?_
                rotate_left
                ·intro w'
                 go_simp
                 with_reducible rfl
                rotate_left
                ·simp only [Act.put, List.setIfInBounds_toArray, List.set_cons_zero, List.set_cons_succ, i64_w, i32_w]
                 rfl
                refine pure_ (i := 1) (N := some 41) (v := ?_) (a' := ?_) #[true, true, false, false, false, false, false, false, false, false] rfl rfl (any_of HT_.out (by kernel_rfl)) (fun _ _ _ h => h) (Or.inl ⟨by rfl, ?_⟩) ?_ ?_
                rotate_left
                ·intro w'
                 go_simp
                 with_reducible rfl
                rotate_left
                ·simp only [Act.put, List.setIfInBounds_toArray, List.set_cons_zero, List.set_cons_succ, i64_w, i32_w]
                 rfl
                refine pure_ (i := 2) (N := some 42) (v := ?_) (a' := ?_) #[true, true, true, false, false, false, false, false, false, false] rfl rfl (any_of HT_.out (by kernel_rfl)) (fun _ _ _ h => h) (Or.inl ⟨by rfl, ?_⟩) ?_ ?_
                rotate_left
                ·intro w'
                 go_simp
                 with_reducible rfl
                rotate_left
                ·simp only [Act.put, List.setIfInBounds_toArray, List.set_cons_zero, List.set_cons_succ, i64_w, i32_w]
                 rfl
                refine pure_ (i := 5) (N := some 45) (v := ?_) (a' := ?_) #[true, true, true, false, false, true, false, false, false, false] rfl rfl (any_of HT_.out (by kernel_rfl)) (fun _ _ _ h => h) (Or.inl ⟨by rfl, ?_⟩) ?_ ?_
                rotate_left
                ·intro w'
                 go_simp
                 with_reducible rfl
                rotate_left
                ·simp only [Act.put, List.setIfInBounds_toArray, List.set_cons_zero, List.set_cons_succ, i64_w, i32_w]
                 rfl
                refine pure_ (i := 6) (N := some 46) (v := ?_) (a' := ?_) #[true, true, true, false, false, true, true, false, false, false] rfl rfl (any_of HT_.out (by kernel_rfl)) (fun _ _ _ h => h) (Or.inl ⟨by rfl, ?_⟩) ?_ ?_
                rotate_left
                ·intro w'
                 go_simp
                 with_reducible rfl
                rotate_left
                ·simp only [Act.put, List.setIfInBounds_toArray, List.set_cons_zero, List.set_cons_succ, i64_w, i32_w]
                 rfl
                refine pure_ (i := 7) (N := some 47) (v := ?_) (a' := ?_) #[true, true, true, false, false, true, true, true, false, false] rfl rfl (any_of HT_.out (by kernel_rfl)) (fun _ _ _ h => h) (Or.inl ⟨by rfl, ?_⟩) ?_ ?_
                rotate_left
                ·intro w'
                 go_simp
                 with_reducible rfl
                rotate_left
                ·simp only [Act.put, List.setIfInBounds_toArray, List.set_cons_zero, List.set_cons_succ, i64_w, i32_w]
                 rfl
                refine take_ (i := 3) (N := some 43) (v := ?_) (a' := ?_) #[true, true, true, true, false, true, true, true, false, false] rfl rfl (take_ofW HT_.out HW_.out (by kernel_rfl)) (fun _ _ _ h => h) (Or.inl ⟨by rfl, ?_⟩) hHeld ?_ ?_
                rotate_left
                ·rintro w' ⟨s0, s1, s2, s3, s4⟩
                 go_simp
                 with_reducible rfl
                rotate_left
                ·simp only [Act.put, List.setIfInBounds_toArray, List.set_cons_zero, List.set_cons_succ, i64_w, i32_w]
                 rfl
                refine one_ (i := 4) (N := some 44) #[true, true, true, true, true, true, true, true, false, false] rfl rfl (one_of HT_.out (by kernel_rfl)) (by decide) (fun K hK => ?_)
                refine Kd.N_lit_step k36 _ 36 ?hg (N' := 44) ?hd (xs := ([(⟨(rd_T36 l0 x6_1).f0, (rd_T36 l0 x6_1).f1, (rd_T36 l0 x6_1).f2, (rd_T36 l0 x6_1).f3, (rd_T36 l0 x6_1).f4⟩ : S36)] : List (S36))) (inner := [.int .u32 ((rd_T36 l0 x6_1).f0), .int .i64 ((rd_T36 l0 x6_1).f1), .slice A216_2 ((rd_T36 l0 x6_1).f2).length c216_2, .int .i64 ((rd_T36 l0 x6_1).f3), .int .i64 ((rd_T36 l0 x6_1).f4)]) (ok := (fun k_ => (P0_ k_ ∨ w.heap.size ≤ k_) ∧ some k_ ≠ (.slice Ao6 x5_1.length co6 : Value).ownBlock)) (okp := (fun k_ => (P0_ k_ ∨ w.heap.size ≤ k_) ∧ some k_ ≠ (.slice Ao6 x5_1.length co6 : Value).ownBlock)) ?hr ?hp (fun _ hk => hk) ((show ∀ k_, w47.heap.size ≤ k_ → (fun k_ => (P0_ k_ ∨ w.heap.size ≤ k_) ∧ some k_ ≠ (.slice Ao6 x5_1.length co6 : Value).ownBlock) k_ from fun k_ hk => ⟨(.inr (Nat.le_trans (below_size (by repeat (first | (with_reducible first | exact HB.out | apply below_alloc | apply pw_below_drewN | apply below_drew1) | exact HB.out))) hk)), Kd.fresh' (Kd.N_lt (by (with_reducible repeat (first | apply Kd.N_alloc | apply Kd.N_drewN | apply Kd.N_drew)); exact HO_5.out)) k_ hk⟩) _ (Nat.le_refl _)) (Below.refl _ _) (Nat.le_refl _) (by simp) ?_; (case hd => rfl); (case hg => rfl); (case hr => first | (go_simp; done) | (go_simp; rfl)); (case hp => exact (Reps.c5 (show Kd.FK k36 _ _ (⟨(rd_T36 l0 x6_1).f0, (rd_T36 l0 x6_1).f1, (rd_T36 l0 x6_1).f2, (rd_T36 l0 x6_1).f3, (rd_T36 l0 x6_1).f4⟩ : S36) [.int .u32 ((rd_T36 l0 x6_1).f0), .int .i64 ((rd_T36 l0 x6_1).f1), .slice A216_2 ((rd_T36 l0 x6_1).f2).length c216_2, .int .i64 ((rd_T36 l0 x6_1).f3), .int .i64 ((rd_T36 l0 x6_1).f4)] from (k36_mkF _ _ (⟨(rd_T36 l0 x6_1).f0, (rd_T36 l0 x6_1).f1, (rd_T36 l0 x6_1).f2, (rd_T36 l0 x6_1).f3, (rd_T36 l0 x6_1).f4⟩ : S36) (Kd.V_reads' (Kd.V_mono (ok' := (fun k_ => (P0_ k_ ∨ w.heap.size ≤ k_) ∧ some k_ ≠ (.slice Ao6 x5_1.length co6 : Value).ownBlock)) (HL216_2.out) (fun k_ hk => ⟨hk.1, hk.2⟩))).2.1 (Kd.V_F (Kd.V_mono (ok' := (fun k_ => (P0_ k_ ∨ w.heap.size ≤ k_) ∧ some k_ ≠ (.slice Ao6 x5_1.length co6 : Value).ownBlock)) (HL216_2.out) (fun k_ hk => ⟨hk.1, hk.2⟩))))) (Reps.none _ _)))
                intro v218 w49 ho50 hb hg_ hnew_
                have HS0_ := (hb.cell (World.block_lt_of_cell? _ _ (hHeld.1))).trans (hHeld.1)
                have HS1_ := (hb.cell (World.block_lt_of_cell? _ _ (hHeld.2.1))).trans (hHeld.2.1)
                have HS2_ := (hb.cell (World.block_lt_of_cell? _ _ (hHeld.2.2.1))).trans (hHeld.2.2.1)
                have HS3_ := (hb.cell (World.block_lt_of_cell? _ _ (hHeld.2.2.2.1))).trans (hHeld.2.2.2.1)
                have HS4_ := (hb.cell (World.block_lt_of_cell? _ _ (hHeld.2.2.2.2))).trans (hHeld.2.2.2.2)
                clear hg_ hnew_
                (first | rw [← Ny217.out] at ho50 | (simp only [Int.reduceToNat] at ho50; rw [← Ny217.out] at ho50))
                have n0_ := Aside0.mk (Kd.V_elder' (by (with_reducible repeat (first | apply Kd.V_alloc | apply Kd.V_drewN | apply Kd.V_drew)); exact HO_0.out) (Kd.N_base ho50) hb)
                have n1_ := Aside0.mk (Kd.N_elder' (by (with_reducible repeat (first | apply Kd.N_alloc | apply Kd.N_drewN | apply Kd.N_drew)); exact HO_5.out) (Kd.N_base ho50) hb)
                have n2_ := Aside0.mk (Kd.V_elder' (by (with_reducible repeat (first | apply Kd.V_alloc | apply Kd.V_drewN | apply Kd.V_drew)); exact HL216_2.out) (Kd.N_base ho50) hb)
                have n3_ := Aside0.mk (Kd.V_elder' (by (with_reducible repeat (first | apply Kd.V_alloc | apply Kd.V_drewN | apply Kd.V_drew)); exact HO224.out) (Kd.N_base ho50) hb)
                have n4_ := Aside0.mk (Kd.N_lower ho50 (below_size (by repeat (first | (with_reducible first | exact HB.out | apply below_alloc | apply pw_below_drewN | apply below_drew1) | exact HB.out))))
                have n5_ := Aside0.mk (Kd.C_below (by repeat (first | (with_reducible exact HR186_2.out) | (with_reducible refine Kd.C_alloc ?_ _) | (with_reducible refine Kd.C_drewN ?_ _) | (with_reducible refine Kd.C_drew ?_) | exact HR186_2.out)) hb)
                have n6_ := Aside0.mk (Kd.C_below (by repeat (first | (with_reducible exact HR216_2.out) | (with_reducible refine Kd.C_alloc ?_ _) | (with_reducible refine Kd.C_drewN ?_ _) | (with_reducible refine Kd.C_drew ?_) | exact HR216_2.out)) hb)
                have n7_ := Aside0.mk (below_step (by repeat (first | (with_reducible first | exact HB.out | apply below_alloc | apply pw_below_drewN | apply below_drew1) | exact HB.out)) hb)
                clear HO_0
                clear HO_5
                clear HL216_2
                clear HO224
                clear HR186_2
                clear HR216_2
                clear HB
                have HO_0 := n0_
                have HO_5 := n1_
                have HL216_2 := n2_
                have HO224 := n3_
                have HO219 := n4_
                have HR186_2 := n5_
                have HR216_2 := n6_
                have HB := n7_
                clear n0_ n1_ n2_ n3_ n4_ n5_ n6_ n7_
                clear hb ho50
                refine hK.out _ _ ⟨HS0_, HS1_, HS2_, HS3_, HS4_⟩ (fun hHeld => ?_)
                clear hK K
                refine norm_ (a' := ?_) ?_ ?_
                rotate_left
                ·show Act.put _ (some 44) _ = _
                 simp only [Act.put, List.setIfInBounds_toArray, List.set_cons_zero, List.set_cons_succ, i64_w, i32_w]
                 rfl
                refine last_ (i := 8) (N := some 48) #[true, true, true, true, true, true, true, true, true, false] rfl rfl (one_of HT_.out (by kernel_rfl)) (by decide) (fun K hK => ?_)
                refine Kd.N_append_rows_step k36 (w0 := w) w.heap.size (by rfl) (.tmp 44) (.tmp 47) 22 36 (.agg #[(.int .u32 0), (.int .i64 0), (.slice none 0 0), (.int .i64 0), (.int .i64 0)]) 56 rfl Try.underlying22 info36 rfl (by decide) (by omega) v218 y217 y220 _ _ _ (fun k_ => (P0_ k_ ∨ w.heap.size ≤ k_)) (fun k_ => ((fun k_ => (P0_ k_ ∨ w.heap.size ≤ k_))) k_ ∧ some k_ ≠ (v218 : Value).ownBlock) rfl rfl ?aO ?aR (fun _ hk => hk) ?aF ?aB ?aS ?aL ?_
                (case aR => exact (by skip; exact Kd.V_F (Kd.V_mono (ok' := (fun k_ => ((fun k_ => (P0_ k_ ∨ w.heap.size ≤ k_))) k_ ∧ some k_ ≠ (v218 : Value).ownBlock)) (HO224.out) (fun k_ hk => ⟨hk.1, hk.2⟩))))
                (case aB => exact (by repeat (first | (with_reducible first | exact HB.out | apply below_alloc | apply pw_below_drewN | apply below_drew1) | exact HB.out)))
                (case aF => exact (fun k_ hk => (.inr (Nat.le_trans (below_size (by repeat (first | (with_reducible first | exact HB.out | apply below_alloc | apply pw_below_drewN | apply below_drew1) | exact HB.out))) hk))))
                (case aO => exact (by (with_reducible repeat (first | apply Kd.N_alloc | apply Kd.N_drewN | apply Kd.N_drew)); exact Kd.N_mono HO219.out (fun _ hk => hk.1)))
                (case aS => exact (below_size (by repeat (first | (with_reducible first | exact HB.out | apply below_alloc | apply pw_below_drewN | apply below_drew1) | exact HB.out))))
                (case aL => have := LMc41.out; omega)
                intro v226 w51 ho hb hg hat
                rw [← Ny225.out] at ho
                have n0_ := Aside0.mk (Kd.V_afterv (ok := (fun k_ => (P0_ k_ ∨ w.heap.size ≤ k_) ∧ some k_ ≠ (.slice Ao6 x5_1.length co6 : Value).ownBlock)) (by (with_reducible repeat (first | apply Kd.V_alloc | apply Kd.V_drewN | apply Kd.V_drew)); exact HO_0.out) hg hat)
                have n1_ := Aside0.mk (Kd.N_afterv (ok := (fun k_ => (P0_ k_ ∨ w.heap.size ≤ k_))) (by (with_reducible repeat (first | apply Kd.N_alloc | apply Kd.N_drewN | apply Kd.N_drew)); exact HO_5.out) hg hat)
                have n2_ := Aside0.mk (Kd.V_afterv (ok := (fun k_ => (P0_ k_ ∨ w.heap.size ≤ k_) ∧ some k_ ≠ (.slice Ao6 x5_1.length co6 : Value).ownBlock)) (by (with_reducible repeat (first | apply Kd.V_alloc | apply Kd.V_drewN | apply Kd.V_drew)); exact HL216_2.out) hg hat)
                have n3_ := Aside0.mk (Kd.V_afterv (ok := (fun k_ => (P0_ k_ ∨ w.heap.size ≤ k_))) (by (with_reducible repeat (first | apply Kd.V_alloc | apply Kd.V_drewN | apply Kd.V_drew)); exact HO224.out) hg hat)
                have n4_ := Aside0.mk (hb)
                have n5_ := Aside0.mk (ho)
                clear HO_0
                clear HO_5
                clear HL216_2
                clear HO224
                clear HB
                clear HO219
                have HO_0 := n0_
                have HO_5 := n1_
                have HL216_2 := n2_
                have HO224 := n3_
                have HB := n4_
                have HO227 := n5_
                clear n0_ n1_ n2_ n3_ n4_ n5_
                clear ho hb hg hat
                refine hK.out _ _ ?_
                clear hK K
                refine norm_ (a' := ?_) ?_ ?_
                rotate_left
                ·show Act.put _ (some 48) _ = _
                 simp only [Act.put, List.setIfInBounds_toArray, List.set_cons_zero, List.set_cons_succ, i64_w, i32_w]
                 rfl
                refine pure_ (i := 9) (N := some 8) (v := ?_) (a' := ?_) #[true, true, true, true, true, true, true, true, true, true] rfl rfl (any_of HT_.out (by kernel_rfl)) (fun _ _ _ h => h) (Or.inl ⟨by rfl, ?_⟩) ?_ ?_
                rotate_left
                ·intro w'
                 go_simp
                 with_reducible rfl
                rotate_left
                ·simp only [Act.put, List.setIfInBounds_toArray, List.set_cons_zero, List.set_cons_succ, i64_w, i32_w]
                 rfl
                refine done_ (done_of HT_.out (by kernel_rfl)) ?_
                try go_wp2_with (first | ((with_reducible refine gate_dst (N := 49) rfl ?_); refine Kd.N_lit k36 _ 36 ?hg (N' := 49) ?hd (xs := ([] : List (S36))) (inner := []) (ok := (fun k_ => (P0_ k_ ∨ w.heap.size ≤ k_) ∧ some k_ ≠ (.slice Ao6 x5_1.length co6 : Value).ownBlock ∧ some k_ ≠ (v226 : Value).ownBlock)) (okp := (fun k_ => (P0_ k_ ∨ w.heap.size ≤ k_) ∧ some k_ ≠ (.slice Ao6 x5_1.length co6 : Value).ownBlock ∧ some k_ ≠ (v226 : Value).ownBlock)) ?hr ?hp (fun _ hk => hk) ((show ∀ k_, w51.heap.size ≤ k_ → (fun k_ => (P0_ k_ ∨ w.heap.size ≤ k_) ∧ some k_ ≠ (.slice Ao6 x5_1.length co6 : Value).ownBlock ∧ some k_ ≠ (v226 : Value).ownBlock) k_ from fun k_ hk => ⟨(.inr (Nat.le_trans (below_size (by repeat (first | (with_reducible first | exact HB.out | apply below_alloc | apply pw_below_drewN | apply below_drew1) | exact HB.out))) hk)), Kd.fresh' (Kd.N_lt (by (with_reducible repeat (first | apply Kd.N_alloc | apply Kd.N_drewN | apply Kd.N_drew)); exact HO_5.out)) k_ hk, Kd.fresh' (Kd.N_lt (by (with_reducible repeat (first | apply Kd.N_alloc | apply Kd.N_drewN | apply Kd.N_drew)); exact HO227.out)) k_ hk⟩) _ (Nat.le_refl _)) (Below.refl _ _) (Nat.le_refl _) (by simp) ?_; (case hd => rfl); (case hg => rfl); (case hr => first | (go_simp; done) | (go_simp; rfl)); (case hp => exact (Reps.none _ _)); intro v229 w52 ho53 hb hg_ hnew_; clear hg_ hnew_; (first | rw [← Ny228.out] at ho53 | (simp only [Int.reduceToNat] at ho53; rw [← Ny228.out] at ho53)); have n0_ := Aside0.mk (Kd.V_elder' (by (with_reducible repeat (first | apply Kd.V_alloc | apply Kd.V_drewN | apply Kd.V_drew)); exact HO_0.out) (Kd.N_base ho53) hb); have n1_ := Aside0.mk (Kd.N_elder' (by (with_reducible repeat (first | apply Kd.N_alloc | apply Kd.N_drewN | apply Kd.N_drew)); exact HO_5.out) (Kd.N_base ho53) hb); have n2_ := Aside0.mk (Kd.V_elder' (by (with_reducible repeat (first | apply Kd.V_alloc | apply Kd.V_drewN | apply Kd.V_drew)); exact HL216_2.out) (Kd.N_base ho53) hb); have n3_ := Aside0.mk (Kd.V_elder' (by (with_reducible repeat (first | apply Kd.V_alloc | apply Kd.V_drewN | apply Kd.V_drew)); exact HO224.out) (Kd.N_base ho53) hb); have n4_ := Aside0.mk (Kd.N_elder' (by (with_reducible repeat (first | apply Kd.N_alloc | apply Kd.N_drewN | apply Kd.N_drew)); exact HO227.out) (Kd.N_base ho53) hb); have n5_ := Aside0.mk (Kd.N_lower ho53 (below_size (by repeat (first | (with_reducible first | exact HB.out | apply below_alloc | apply pw_below_drewN | apply below_drew1) | exact HB.out)))); have n6_ := Aside0.mk (below_step (by repeat (first | (with_reducible first | exact HB.out | apply below_alloc | apply pw_below_drewN | apply below_drew1) | exact HB.out)) hb); clear HO_0; clear HO_5; clear HL216_2; clear HO224; clear HO227; clear HB; have HO_0 := n0_; have HO_5 := n1_; have HL216_2 := n2_; have HO224 := n3_; have HO227 := n4_; have HO230 := n5_; have HB := n6_; clear n0_ n1_ n2_ n3_ n4_ n5_ n6_; clear hb ho53; have q54 : (x7_2 : Int) ≤ ((x5_1.length : Int) : Int) := of_decide_eq_true (by first | (with_reducible assumption) | assumption); obtain ⟨i054, hi054, _, hsz54, _⟩ := info_parts info36; have hroom54 : x5_1.length ≤ co6 := (Kd.N_reads' HO_5.out).2.1; have hC54 : Kd.F k36 _ _ Ao6 x5_1.length x5_1 := (Kd.V_at (base := w.heap.size) (Kd.N_V HO_5.out)).2.2; have hcut54 := cut_to (P := Try.prog) 22 36 .i64 Try.underlying22 hi054 Ao6 x5_1.length co6 x7_2 (of_decide_eq_true (by first | (with_reducible assumption) | assumption)) q54 hroom54; have hr54 := Kd.F_take (m := (x7_2 : Int).toNat) hC54 (by omega); have hy54 : y231.length = (x7_2 : Int).toNat := (by rw [Ny231.out, List.length_take]; omega); rw [← Ny231.out] at hr54; rw [← hy54] at hcut54; have HO235 := Aside0.mk (show Kd.V k36 36 _ w.heap.size _ (.slice Ao6 y231.length co6) y231 from Kd.V_mk (by omega) hr54); have HC235 := Aside0.mk (show y231.length ≤ co6 from by omega); clear hr54 hC54 hroom54 hi054 hsz54; have KY54 := Aside0.mk hy54; clear hy54; replace q54 := eq_true q54) | ((with_reducible refine gate_builtin (b := .append) (xs := #[.tmp 49, .tmp 52]) rfl ?_); at_builtin; refine Kd.N_append_rows k36 (w0 := w) w.heap.size rfl (.tmp 49) (.tmp 52) 22 36 (.agg #[(.int .u32 0), (.int .i64 0), (.slice none 0 0), (.int .i64 0), (.int .i64 0)]) 56 rfl Try.underlying22 info36 rfl (by decide) (by omega) v229 y228 y231 _ _ _ (fun k_ => (P0_ k_ ∨ w.heap.size ≤ k_) ∧ some k_ ≠ (v226 : Value).ownBlock) (fun k_ => ((fun k_ => (P0_ k_ ∨ w.heap.size ≤ k_) ∧ some k_ ≠ (v226 : Value).ownBlock)) k_ ∧ some k_ ≠ (v229 : Value).ownBlock) rfl rfl ?aO ?aR (fun _ hk => hk) ?aF ?aB ?aS ?aL ?_; (case aR => exact (by skip; exact Kd.V_F (Kd.V_mono (ok' := (fun k_ => ((fun k_ => (P0_ k_ ∨ w.heap.size ≤ k_) ∧ some k_ ≠ (v226 : Value).ownBlock)) k_ ∧ some k_ ≠ (v229 : Value).ownBlock)) (HO235.out) (fun k_ hk => ⟨⟨hk.1.1, hk.1.2⟩, hk.2⟩)))); (case aB => exact (by repeat (first | (with_reducible first | exact HB.out | apply below_alloc | apply pw_below_drewN | apply below_drew1) | exact HB.out))); (case aF => exact (fun k_ hk => ⟨(.inr (Nat.le_trans (below_size (by repeat (first | (with_reducible first | exact HB.out | apply below_alloc | apply pw_below_drewN | apply below_drew1) | exact HB.out))) hk)), Kd.fresh' (Kd.N_lt (by (with_reducible repeat (first | apply Kd.N_alloc | apply Kd.N_drewN | apply Kd.N_drew)); exact HO227.out)) k_ hk⟩)); (case aO => exact (by (with_reducible repeat (first | apply Kd.N_alloc | apply Kd.N_drewN | apply Kd.N_drew)); exact Kd.N_mono HO230.out (fun _ hk => ⟨hk.1, hk.2.2⟩))); (case aS => exact (below_size (by repeat (first | (with_reducible first | exact HB.out | apply below_alloc | apply pw_below_drewN | apply below_drew1) | exact HB.out)))); (case aL => have := LMc44.out; omega); intro v237 w55 ho hb hg hat; rw [← Ny236.out] at ho; have n0_ := Aside0.mk (Kd.V_afterv (ok := (fun k_ => (P0_ k_ ∨ w.heap.size ≤ k_) ∧ some k_ ≠ (.slice Ao6 x5_1.length co6 : Value).ownBlock ∧ some k_ ≠ (v226 : Value).ownBlock)) (by (with_reducible repeat (first | apply Kd.V_alloc | apply Kd.V_drewN | apply Kd.V_drew)); exact Kd.V_mono HO_0.out (fun _ hk => ⟨⟨hk.1.1.1, ⟨hk.1.1.2, hk.1.2⟩⟩, hk.2⟩)) hg hat); have n1_ := Aside0.mk (Kd.N_afterv (ok := (fun k_ => (P0_ k_ ∨ w.heap.size ≤ k_) ∧ some k_ ≠ (v226 : Value).ownBlock)) (by (with_reducible repeat (first | apply Kd.N_alloc | apply Kd.N_drewN | apply Kd.N_drew)); exact HO_5.out) hg hat); have n2_ := Aside0.mk (Kd.V_afterv (ok := (fun k_ => (P0_ k_ ∨ w.heap.size ≤ k_) ∧ some k_ ≠ (.slice Ao6 x5_1.length co6 : Value).ownBlock ∧ some k_ ≠ (v226 : Value).ownBlock)) (by (with_reducible repeat (first | apply Kd.V_alloc | apply Kd.V_drewN | apply Kd.V_drew)); exact Kd.V_mono HL216_2.out (fun _ hk => ⟨⟨hk.1.1.1, ⟨hk.1.1.2, hk.1.2⟩⟩, hk.2⟩)) hg hat); have n3_ := Aside0.mk (Kd.V_afterv (ok := (fun k_ => (P0_ k_ ∨ w.heap.size ≤ k_) ∧ some k_ ≠ (v226 : Value).ownBlock)) (by (with_reducible repeat (first | apply Kd.V_alloc | apply Kd.V_drewN | apply Kd.V_drew)); exact HO224.out) hg hat); have n4_ := Aside0.mk (Kd.N_afterv (ok := (fun k_ => (P0_ k_ ∨ w.heap.size ≤ k_))) (by (with_reducible repeat (first | apply Kd.N_alloc | apply Kd.N_drewN | apply Kd.N_drew)); exact HO227.out) hg hat); have n5_ := Aside0.mk (Kd.V_afterv (ok := (fun k_ => (P0_ k_ ∨ w.heap.size ≤ k_) ∧ some k_ ≠ (v226 : Value).ownBlock)) (by (with_reducible repeat (first | apply Kd.V_alloc | apply Kd.V_drewN | apply Kd.V_drew)); exact HO235.out) hg hat); have n6_ := Aside0.mk (hb); have n7_ := Aside0.mk (ho); clear HO_0; clear HO_5; clear HL216_2; clear HO224; clear HO227; clear HO235; clear HB; clear HO230; have HO_0 := n0_; have HO_5 := n1_; have HL216_2 := n2_; have HO224 := n3_; have HO227 := n4_; have HO235 := n5_; have HB := n6_; have HO238 := n7_; clear n0_ n1_ n2_ n3_ n4_ n5_ n6_ n7_; clear ho hb hg hat; obtain ⟨Ao57, co57, eo57⟩ := Kd.N_slice HO227.out; subst eo57) | ((with_reducible refine gate_builtin (b := .append) (xs := #[.tmp 53, .tmp 54]) rfl ?_); at_builtin; refine Kd.N_append_rows k36 (w0 := w) w.heap.size rfl (.tmp 53) (.tmp 54) 22 36 (.agg #[(.int .u32 0), (.int .i64 0), (.slice none 0 0), (.int .i64 0), (.int .i64 0)]) 56 rfl Try.underlying22 info36 rfl (by decide) (by omega) v237 y236 y225 _ _ _ (fun k_ => (P0_ k_ ∨ w.heap.size ≤ k_)) (fun k_ => ((fun k_ => (P0_ k_ ∨ w.heap.size ≤ k_))) k_ ∧ some k_ ≠ (v237 : Value).ownBlock) rfl rfl ?aO ?aR (fun _ hk => hk) ?aF ?aB ?aS ?aL ?_; (case aR => exact (by skip; exact Kd.N_F (Kd.N_mono (ok' := (fun k_ => ((fun k_ => (P0_ k_ ∨ w.heap.size ≤ k_))) k_ ∧ some k_ ≠ (v237 : Value).ownBlock)) (HO227.out) (fun k_ hk => ⟨hk.1, hk.2⟩)))); (case aB => exact (by repeat (first | (with_reducible first | exact HB.out | apply below_alloc | apply pw_below_drewN | apply below_drew1) | exact HB.out))); (case aF => exact (fun k_ hk => (.inr (Nat.le_trans (below_size (by repeat (first | (with_reducible first | exact HB.out | apply below_alloc | apply pw_below_drewN | apply below_drew1) | exact HB.out))) hk)))); (case aO => exact (by (with_reducible repeat (first | apply Kd.N_alloc | apply Kd.N_drewN | apply Kd.N_drew)); exact Kd.N_mono HO238.out (fun _ hk => hk.1))); (case aS => exact (below_size (by repeat (first | (with_reducible first | exact HB.out | apply below_alloc | apply pw_below_drewN | apply below_drew1) | exact HB.out)))); (case aL => have := LMc45.out; omega); intro v240 w56 ho hb hg hat; rw [← Ny239.out] at ho; have n0_ := Aside0.mk (Kd.V_afterv (ok := (fun k_ => (P0_ k_ ∨ w.heap.size ≤ k_) ∧ some k_ ≠ (.slice Ao6 x5_1.length co6 : Value).ownBlock ∧ some k_ ≠ (.slice Ao57 y225.length co57 : Value).ownBlock)) (by (with_reducible repeat (first | apply Kd.V_alloc | apply Kd.V_drewN | apply Kd.V_drew)); exact HO_0.out) hg hat); have n1_ := Aside0.mk (Kd.N_afterv (ok := (fun k_ => (P0_ k_ ∨ w.heap.size ≤ k_) ∧ some k_ ≠ (.slice Ao57 y225.length co57 : Value).ownBlock)) (by (with_reducible repeat (first | apply Kd.N_alloc | apply Kd.N_drewN | apply Kd.N_drew)); exact HO_5.out) hg hat); have n2_ := Aside0.mk (Kd.V_afterv (ok := (fun k_ => (P0_ k_ ∨ w.heap.size ≤ k_) ∧ some k_ ≠ (.slice Ao6 x5_1.length co6 : Value).ownBlock ∧ some k_ ≠ (.slice Ao57 y225.length co57 : Value).ownBlock)) (by (with_reducible repeat (first | apply Kd.V_alloc | apply Kd.V_drewN | apply Kd.V_drew)); exact HL216_2.out) hg hat); have n3_ := Aside0.mk (Kd.V_afterv (ok := (fun k_ => (P0_ k_ ∨ w.heap.size ≤ k_) ∧ some k_ ≠ (.slice Ao57 y225.length co57 : Value).ownBlock)) (by (with_reducible repeat (first | apply Kd.V_alloc | apply Kd.V_drewN | apply Kd.V_drew)); exact HO224.out) hg hat); have n4_ := Aside0.mk (Kd.N_afterv (ok := (fun k_ => (P0_ k_ ∨ w.heap.size ≤ k_))) (by (with_reducible repeat (first | apply Kd.N_alloc | apply Kd.N_drewN | apply Kd.N_drew)); exact HO227.out) hg hat); have n5_ := Aside0.mk (Kd.V_afterv (ok := (fun k_ => (P0_ k_ ∨ w.heap.size ≤ k_) ∧ some k_ ≠ (.slice Ao57 y225.length co57 : Value).ownBlock)) (by (with_reducible repeat (first | apply Kd.V_alloc | apply Kd.V_drewN | apply Kd.V_drew)); exact HO235.out) hg hat); have n6_ := Aside0.mk (hb); have n7_ := Aside0.mk (ho); clear HO_0; clear HO_5; clear HL216_2; clear HO224; clear HO227; clear HO235; clear HB; clear HO238; have HO_0 := n0_; have HO_5 := n1_; have HL216_2 := n2_; have HO224 := n3_; have HO227 := n4_; have HO235 := n5_; have HB := n6_; have HO241 := n7_; clear n0_ n1_ n2_ n3_ n4_ n5_ n6_ n7_; clear ho hb hg hat))
                go_roundg k2
                case measure => have := HK1.out; have := HK2.out; omega
                case rel => exact ⟨(y239), (wrap64 (x6_1 + 1)), (by first | rfl | (simp; done) | (simp [*]; done)), H', ⟨by have := HK1.out; have := HK2.out; omega⟩, ⟨by (with_reducible repeat (first | apply Kd.V_alloc | apply Kd.V_drewN | apply Kd.V_drew)); exact Kd.V_mono HO_0.out (fun _ hk => ⟨hk.1.1, hk.2⟩)⟩, ⟨by (with_reducible repeat (first | apply Kd.N_alloc | apply Kd.N_drewN | apply Kd.N_drew)); exact HO241.out⟩, ⟨by repeat (first | (with_reducible first | exact HB.out | apply below_alloc | apply pw_below_drewN | apply below_drew1) | exact HB.out)⟩⟩
               ·rw [if_neg c45] at H
                exact absurd H (by simp)
              ·rw [if_neg c44] at H
               exact absurd H (by simp)
             ·rw [if_neg c41] at H
              exact absurd H (by simp)
            ·rw [if_neg c40] at H
             exact absurd H (by simp)
           ·rw [if_neg c39] at H
            exact absurd H (by simp)
          ·rw [if_neg c38] at H
           exact absurd H (by simp)
         ·rw [if_neg c37] at H
          exact absurd H (by simp)
     ·rw [if_neg c5] at H
      have c5b0 : (((rd_T36 l0 x6_1).f1) == a1) = false := beq_eq_false_iff_ne.mpr c5
      have c5b1 : (((rd_T36 l0 x6_1).f1) != a1) = true := bne_iff_ne.mpr c5
      have H' := Aside0.mk H
      clear H
      have p186 : 0 ≤ (x6_1 : Int) := of_decide_eq_true (by first | (with_reducible assumption) | assumption)
      have q186 : x6_1 < (l0.length : Int) := of_decide_eq_true (by first | (with_reducible assumption) | assumption)
      obtain ⟨ad186, A186_2, c186_2, e186, hx186_0, hx186_1, hx186_2, hx186_3, hx186_4, hl186_2, hi186_2⟩ := at_T36 (Kd.V_reads' HO_0.out).2.2 x6_1 p186 q186
      cases e186
      obtain ⟨ce186, hce186, hMe186, hcc186⟩ := Kd.V_get HO_0.out z36 x6_1 p186 (by first | exact q186 | exact of_decide_eq_true (by first | (with_reducible assumption) | assumption) | (have e_ := (Kd.V_reads' HO_0.out).1; omega))
      obtain ⟨ua186_2, uc186_2, rfl, ul186_2, ge186_2⟩ := k36_openF hMe186
      have hv186_2 := hcc186 2 _ rfl
      rw [add_field _ _ 2 (by omega)] at hv186_2
      replace hv186_2 := Option.some.inj (hv186_2.symm.trans hx186_2)
      injection hv186_2 with hva_ hvn_ hvc_
      rw [hva_] at ge186_2
      rw [hvc_] at ul186_2
      have HL186_2 := Aside0.mk (show Kd.V (Kd.int .u32) 33 _ w.heap.size _ _ ((rd_T36 l0 x6_1).f2) from Kd.V_mk ul186_2 ge186_2)
      clear hva_ hvn_ hvc_ ge186_2 ul186_2
      clear hcc186 hce186
      have HR186_2 := Aside0.mk hi186_2
      have HC186_2 := Aside0.mk hl186_2
      clear hi186_2 hl186_2
      replace p186 := eq_true p186
      replace q186 := eq_true q186
      go_wp2
      go_roundg k1
      case measure => have := HK1.out; omega
      case rel => exact ⟨(x5_1), (wrap64 (x6_1 + 1)), (by first | rfl | (simp; done) | (simp [*]; done)), H', ⟨by have := HK1.out; omega⟩, ⟨by (with_reducible repeat (first | apply Kd.V_alloc | apply Kd.V_drewN | apply Kd.V_drew)); exact HO_0.out⟩, ⟨by (with_reducible repeat (first | apply Kd.N_alloc | apply Kd.N_drewN | apply Kd.N_drew)); exact HO_5.out⟩, ⟨by repeat (first | (with_reducible first | exact HB.out | apply below_alloc | apply pw_below_drewN | apply below_drew1) | exact HB.out)⟩⟩
    ·rw [if_neg c4] at H
     exact absurd H (by simp)
   ·rw [if_neg c3] at H
    have c3b0 : decide (x6_1 < (l0.length : Int)) = false := decide_eq_false c3
    clear c3
    obtain rfl := Option.some.inj H
    go_wp2
    go_ret
    exact ⟨_, by first | rfl | (simp [errW_none, errW_some] <;> rfl) | (simp [*, errW_none, errW_some] <;> rfl), by (with_reducible repeat (first | apply Kd.N_alloc | apply Kd.N_drewN | apply Kd.N_drew)); exact HO_5.out, by repeat (first | (with_reducible first | exact HB.out | apply below_alloc | apply pw_below_drewN | apply below_drew1) | exact HB.out)⟩

end Go.Proofs.Ytlkpmlcmgggifaa.PQueueRuns
namespace Go.Proofs.Ytlkpmlcmgggifaa.PQueueRuns
open Go.RowKit Go.Proofs.YtlkpmlcmgggifaaW.PrintWords Go.Proofs.YtlkpmlcmgggifaaW.PrintLast Go.Proofs.YtlkpmlcmgggifaaW.PrintMore
attribute [local go_sem] max2_int min2_int max_two min_two max_three min_three max_four min_four   -- for this text's walks alone
set_option linter.unusedVariables false
set_option linter.unusedSimpArgs false

/-! ### tiltyardref17_Put: function 22 -/
mutual
def tiltyardref17_Put.l0 : Nat → List (S36) → List (S123) → Bool → Int → Int → Int → List Int → Int → Int → Option ((List (S36)) × Int)
 | 0, _, _, _, _, _, _, _, _, _ => none
 | k + 1, x0, x1, x8, x9, x243000, x243001, x243002, x243003, x243004 => if x9 < (x243002.length : Int) then (if x8 = true then (if 0 ≤ x9 then ((tiltyardref07_Right.f (rd x243002 x9)).bind fun t245 => (tiltyardref17_Put.l0 k x0 x1 t245 (wrap64 (x9 + 1)) x243000 x243001 x243002 x243003 x243004)) else (none)) else (tiltyardref17_Put.l0 k x0 x1 false (wrap64 (x9 + 1)) x243000 x243001 x243002 x243003 x243004)) else (if x8 = true then (if x243001 < 0 then (tiltyardref17_Put.j1 k x0 x1 true x243000 x243001 x243002 x243003 x243004) else (tiltyardref17_Put.j1 k x0 x1 (decide (x243001 ≥ (x1.length : Int))) x243000 x243001 x243002 x243003 x243004)) else (some (x0, 14)))
def tiltyardref17_Put.j1 : Nat → List (S36) → List (S123) → Bool → Int → Int → List Int → Int → Int → Option ((List (S36)) × Int)
 | 0, _, _, _, _, _, _, _, _ => none
 | k + 1, x0, x1, x44, x243000, x243001, x243002, x243003, x243004 => if x44 = true then (some (x0, 20)) else (if (x243002.length : Int) = 0 then (tiltyardref17_Put.j2 k x0 true x243000 x243001 x243002 x243003 x243004) else (if 0 ≤ x243001 then (if x243001 < (x1.length : Int) then (tiltyardref17_Put.j2 k x0 (decide ((x243002.length : Int) > ((rd_T123 x1 x243001).f0))) x243000 x243001 x243002 x243003 x243004) else (none)) else (none)))
def tiltyardref17_Put.j2 : Nat → List (S36) → Bool → Int → Int → List Int → Int → Int → Option ((List (S36)) × Int)
 | 0, _, _, _, _, _, _, _ => none
 | k + 1, x0, x61, x243000, x243001, x243002, x243003, x243004 => if x61 = true then (some (x0, 21)) else (if x243003 < 0 then (tiltyardref17_Put.j3 k x0 true x243000 x243001 x243002 x243003 x243004) else (tiltyardref17_Put.j3 k x0 (decide (x243003 > 10000)) x243000 x243001 x243002 x243003 x243004))
def tiltyardref17_Put.j3 : Nat → List (S36) → Bool → Int → Int → List Int → Int → Int → Option ((List (S36)) × Int)
 | 0, _, _, _, _, _, _, _ => none
 | k + 1, x0, x70, x243000, x243001, x243002, x243003, x243004 => if x70 = true then (some (x0, 2)) else ((tiltyardref17_Get.f k x0 x243000).bind fun bt247 => (tiltyardref17_Put.l1 k x0 bt247.2.2.2.2.2 0 x243000 x243001 x243002 x243003 x243004))
def tiltyardref17_Put.l1 : Nat → List (S36) → Bool → Int → Int → Int → List Int → Int → Int → Option ((List (S36)) × Int)
 | 0, _, _, _, _, _, _, _, _ => none
 | k + 1, x0, x11, x12, x243000, x243001, x243002, x243003, x243004 => if x12 < (x243002.length : Int) then (if x11 = true then (tiltyardref17_Put.l1 k x0 true (wrap64 (x12 + 1)) x243000 x243001 x243002 x243003 x243004) else (if 0 ≤ x12 then ((tiltyardref17_Of.f k x0 (rd x243002 x12)).bind fun t257 => (if t257 = 0 then (if 0 ≤ (wrap64 (x12 + 1)) then (if (wrap64 (x12 + 1)) ≤ (x243002.length : Int) then ((tiltyardref13_Has.f k (x243002.drop ((wrap64 (x12 + 1)) : Int).toNat) (rd x243002 x12)).bind fun t264 => (tiltyardref17_Put.l1 k x0 t264 (wrap64 (x12 + 1)) x243000 x243001 x243002 x243003 x243004)) else (none)) else (none)) else (tiltyardref17_Put.l1 k x0 true (wrap64 (x12 + 1)) x243000 x243001 x243002 x243003 x243004))) else (none))) else (if x11 = true then (some (x0, 11)) else ((tiltyardref17_Mode.f k x0 x243001).bind fun t265 => (if (t265.length : Int) ≥ 16 then (some (x0, 10)) else ((some (([] : List (S36)) : List (S36))).bind fun y268 => (if y268.length + x0.length < 2513169434916 then ((some (y268 ++ x0 : List (S36))).bind fun y271 => ((some (([(⟨x243000, x243001, x243002, x243003, x243004⟩ : S36)] : List (S36)) : List (S36))).bind fun y274 => (if y271.length + y274.length < 2513169434916 then (some ((y271 ++ y274), 0)) else (none)))) else (none))))))
end
def tiltyardref17_Put.f (k : Nat) (l0 : List (S36)) (l1 : List (S123)) (a2_0 : Int) (a2_1 : Int) (l2_2 : List Int) (a2_3 : Int) (a2_4 : Int) : Option ((List (S36)) × Int) := (tiltyardref07_Right.f a2_0).bind fun t243 => (tiltyardref17_Put.l0 k l0 l1 t243 0 a2_0 a2_1 l2_2 a2_3 a2_4)
theorem tiltyardref17_Put.mono_l : ∀ k, (∀ y0 y1 y2 y3 y4 y5 y6 y7 y8, LeO (tiltyardref17_Put.l0 k y0 y1 y2 y3 y4 y5 y6 y7 y8) (tiltyardref17_Put.l0 (k + 1) y0 y1 y2 y3 y4 y5 y6 y7 y8)) ∧ (∀ y0 y1 y2 y3 y4 y5 y6 y7, LeO (tiltyardref17_Put.j1 k y0 y1 y2 y3 y4 y5 y6 y7) (tiltyardref17_Put.j1 (k + 1) y0 y1 y2 y3 y4 y5 y6 y7)) ∧ (∀ y0 y1 y2 y3 y4 y5 y6, LeO (tiltyardref17_Put.j2 k y0 y1 y2 y3 y4 y5 y6) (tiltyardref17_Put.j2 (k + 1) y0 y1 y2 y3 y4 y5 y6)) ∧ (∀ y0 y1 y2 y3 y4 y5 y6, LeO (tiltyardref17_Put.j3 k y0 y1 y2 y3 y4 y5 y6) (tiltyardref17_Put.j3 (k + 1) y0 y1 y2 y3 y4 y5 y6)) ∧ (∀ y0 y1 y2 y3 y4 y5 y6 y7, LeO (tiltyardref17_Put.l1 k y0 y1 y2 y3 y4 y5 y6 y7) (tiltyardref17_Put.l1 (k + 1) y0 y1 y2 y3 y4 y5 y6 y7))
 | 0 => ⟨fun _ _ _ _ _ _ _ _ _ r h => by simp [tiltyardref17_Put.l0] at h, fun _ _ _ _ _ _ _ _ r h => by simp [tiltyardref17_Put.j1] at h, fun _ _ _ _ _ _ _ r h => by simp [tiltyardref17_Put.j2] at h, fun _ _ _ _ _ _ _ r h => by simp [tiltyardref17_Put.j3] at h, fun _ _ _ _ _ _ _ _ r h => by simp [tiltyardref17_Put.l1] at h⟩
 | k + 1 => by
  obtain ⟨ih0, ih1, ih2, ih3, ih4⟩ := tiltyardref17_Put.mono_l k
  refine ⟨?_, ?_, ?_, ?_, ?_⟩
  ·intro y0 y1 y2 y3 y4 y5 y6 y7 y8
   unfold tiltyardref17_Put.l0
   repeat' first
   | (with_reducible exact ih0 _ _ _ _ _ _ _ _ _)
   | (with_reducible exact ih1 _ _ _ _ _ _ _ _)
   | (with_reducible exact ih2 _ _ _ _ _ _ _)
   | (with_reducible exact ih3 _ _ _ _ _ _ _)
   | (with_reducible exact ih4 _ _ _ _ _ _ _ _)
   | (with_reducible exact tiltyardref13_Has.mono _ _ _)
   | (with_reducible exact tiltyardref17_Get.mono _ _ _)
   | (with_reducible exact tiltyardref17_Mode.mono _ _ _)
   | (with_reducible exact tiltyardref17_Of.mono _ _ _)
   | (with_reducible exact LeO.refl _)
   | (with_reducible exact LeO.none _)
   | (with_reducible refine LeO.ite ?_ ?_)
   | (with_reducible refine LeO.bind ?_ (fun _ => ?_))
   | exact ih0 _ _ _ _ _ _ _ _ _
   | exact ih1 _ _ _ _ _ _ _ _
   | exact ih2 _ _ _ _ _ _ _
   | exact ih3 _ _ _ _ _ _ _
   | exact ih4 _ _ _ _ _ _ _ _
   | exact tiltyardref13_Has.mono _ _ _
   | exact tiltyardref17_Get.mono _ _ _
   | exact tiltyardref17_Mode.mono _ _ _
   | exact tiltyardref17_Of.mono _ _ _
   | exact LeO.none _
   | refine LeO.ite ?_ ?_
   | refine LeO.bind ?_ (fun _ => ?_)
  ·intro y0 y1 y2 y3 y4 y5 y6 y7
   unfold tiltyardref17_Put.j1
   repeat' first
   | (with_reducible exact ih0 _ _ _ _ _ _ _ _ _)
   | (with_reducible exact ih1 _ _ _ _ _ _ _ _)
   | (with_reducible exact ih2 _ _ _ _ _ _ _)
   | (with_reducible exact ih3 _ _ _ _ _ _ _)
   | (with_reducible exact ih4 _ _ _ _ _ _ _ _)
   | (with_reducible exact tiltyardref13_Has.mono _ _ _)
   | (with_reducible exact tiltyardref17_Get.mono _ _ _)
   | (with_reducible exact tiltyardref17_Mode.mono _ _ _)
   | (with_reducible exact tiltyardref17_Of.mono _ _ _)
   | (with_reducible exact LeO.refl _)
   | (with_reducible exact LeO.none _)
   | (with_reducible refine LeO.ite ?_ ?_)
   | (with_reducible refine LeO.bind ?_ (fun _ => ?_))
   | exact ih0 _ _ _ _ _ _ _ _ _
   | exact ih1 _ _ _ _ _ _ _ _
   | exact ih2 _ _ _ _ _ _ _
   | exact ih3 _ _ _ _ _ _ _
   | exact ih4 _ _ _ _ _ _ _ _
   | exact tiltyardref13_Has.mono _ _ _
   | exact tiltyardref17_Get.mono _ _ _
   | exact tiltyardref17_Mode.mono _ _ _
   | exact tiltyardref17_Of.mono _ _ _
   | exact LeO.none _
   | refine LeO.ite ?_ ?_
   | refine LeO.bind ?_ (fun _ => ?_)
  ·intro y0 y1 y2 y3 y4 y5 y6
   unfold tiltyardref17_Put.j2
   repeat' first
   | (with_reducible exact ih0 _ _ _ _ _ _ _ _ _)
   | (with_reducible exact ih1 _ _ _ _ _ _ _ _)
   | (with_reducible exact ih2 _ _ _ _ _ _ _)
   | (with_reducible exact ih3 _ _ _ _ _ _ _)
   | (with_reducible exact ih4 _ _ _ _ _ _ _ _)
   | (with_reducible exact tiltyardref13_Has.mono _ _ _)
   | (with_reducible exact tiltyardref17_Get.mono _ _ _)
   | (with_reducible exact tiltyardref17_Mode.mono _ _ _)
   | (with_reducible exact tiltyardref17_Of.mono _ _ _)
   | (with_reducible exact LeO.refl _)
   | (with_reducible exact LeO.none _)
   | (with_reducible refine LeO.ite ?_ ?_)
   | (with_reducible refine LeO.bind ?_ (fun _ => ?_))
   | exact ih0 _ _ _ _ _ _ _ _ _
   | exact ih1 _ _ _ _ _ _ _ _
   | exact ih2 _ _ _ _ _ _ _
   | exact ih3 _ _ _ _ _ _ _
   | exact ih4 _ _ _ _ _ _ _ _
   | exact tiltyardref13_Has.mono _ _ _
   | exact tiltyardref17_Get.mono _ _ _
   | exact tiltyardref17_Mode.mono _ _ _
   | exact tiltyardref17_Of.mono _ _ _
   | exact LeO.none _
   | refine LeO.ite ?_ ?_
   | refine LeO.bind ?_ (fun _ => ?_)
  ·intro y0 y1 y2 y3 y4 y5 y6
   unfold tiltyardref17_Put.j3
   repeat' first
   | (with_reducible exact ih0 _ _ _ _ _ _ _ _ _)
   | (with_reducible exact ih1 _ _ _ _ _ _ _ _)
   | (with_reducible exact ih2 _ _ _ _ _ _ _)
   | (with_reducible exact ih3 _ _ _ _ _ _ _)
   | (with_reducible exact ih4 _ _ _ _ _ _ _ _)
   | (with_reducible exact tiltyardref13_Has.mono _ _ _)
   | (with_reducible exact tiltyardref17_Get.mono _ _ _)
   | (with_reducible exact tiltyardref17_Mode.mono _ _ _)
   | (with_reducible exact tiltyardref17_Of.mono _ _ _)
   | (with_reducible exact LeO.refl _)
   | (with_reducible exact LeO.none _)
   | (with_reducible refine LeO.ite ?_ ?_)
   | (with_reducible refine LeO.bind ?_ (fun _ => ?_))
   | exact ih0 _ _ _ _ _ _ _ _ _
   | exact ih1 _ _ _ _ _ _ _ _
   | exact ih2 _ _ _ _ _ _ _
   | exact ih3 _ _ _ _ _ _ _
   | exact ih4 _ _ _ _ _ _ _ _
   | exact tiltyardref13_Has.mono _ _ _
   | exact tiltyardref17_Get.mono _ _ _
   | exact tiltyardref17_Mode.mono _ _ _
   | exact tiltyardref17_Of.mono _ _ _
   | exact LeO.none _
   | refine LeO.ite ?_ ?_
   | refine LeO.bind ?_ (fun _ => ?_)
  ·intro y0 y1 y2 y3 y4 y5 y6 y7
   unfold tiltyardref17_Put.l1
   repeat' first
   | (with_reducible exact ih0 _ _ _ _ _ _ _ _ _)
   | (with_reducible exact ih1 _ _ _ _ _ _ _ _)
   | (with_reducible exact ih2 _ _ _ _ _ _ _)
   | (with_reducible exact ih3 _ _ _ _ _ _ _)
   | (with_reducible exact ih4 _ _ _ _ _ _ _ _)
   | (with_reducible exact tiltyardref13_Has.mono _ _ _)
   | (with_reducible exact tiltyardref17_Get.mono _ _ _)
   | (with_reducible exact tiltyardref17_Mode.mono _ _ _)
   | (with_reducible exact tiltyardref17_Of.mono _ _ _)
   | (with_reducible exact LeO.refl _)
   | (with_reducible exact LeO.none _)
   | (with_reducible refine LeO.ite ?_ ?_)
   | (with_reducible refine LeO.bind ?_ (fun _ => ?_))
   | exact ih0 _ _ _ _ _ _ _ _ _
   | exact ih1 _ _ _ _ _ _ _ _
   | exact ih2 _ _ _ _ _ _ _
   | exact ih3 _ _ _ _ _ _ _
   | exact ih4 _ _ _ _ _ _ _ _
   | exact tiltyardref13_Has.mono _ _ _
   | exact tiltyardref17_Get.mono _ _ _
   | exact tiltyardref17_Mode.mono _ _ _
   | exact tiltyardref17_Of.mono _ _ _
   | exact LeO.none _
   | refine LeO.ite ?_ ?_
   | refine LeO.bind ?_ (fun _ => ?_)
theorem tiltyardref17_Put.mono : ∀ a0 a1 a2 a3 a4 a5 a6 k, LeO (tiltyardref17_Put.f k a0 a1 a2 a3 a4 a5 a6) (tiltyardref17_Put.f (k + 1) a0 a1 a2 a3 a4 a5 a6) := by
 intro a0 a1 a2 a3 a4 a5 a6 k
 obtain ⟨ih0, ih1, ih2, ih3, ih4⟩ := tiltyardref17_Put.mono_l k
 unfold tiltyardref17_Put.f
 repeat' first
   | (with_reducible exact ih0 _ _ _ _ _ _ _ _ _)
   | (with_reducible exact ih1 _ _ _ _ _ _ _ _)
   | (with_reducible exact ih2 _ _ _ _ _ _ _)
   | (with_reducible exact ih3 _ _ _ _ _ _ _)
   | (with_reducible exact ih4 _ _ _ _ _ _ _ _)
   | (with_reducible exact tiltyardref13_Has.mono _ _ _)
   | (with_reducible exact tiltyardref17_Get.mono _ _ _)
   | (with_reducible exact tiltyardref17_Mode.mono _ _ _)
   | (with_reducible exact tiltyardref17_Of.mono _ _ _)
   | (with_reducible exact LeO.refl _)
   | (with_reducible exact LeO.none _)
   | (with_reducible refine LeO.ite ?_ ?_)
   | (with_reducible refine LeO.bind ?_ (fun _ => ?_))
   | exact ih0 _ _ _ _ _ _ _ _ _
   | exact ih1 _ _ _ _ _ _ _ _
   | exact ih2 _ _ _ _ _ _ _
   | exact ih3 _ _ _ _ _ _ _
   | exact ih4 _ _ _ _ _ _ _ _
   | exact tiltyardref13_Has.mono _ _ _
   | exact tiltyardref17_Get.mono _ _ _
   | exact tiltyardref17_Mode.mono _ _ _
   | exact tiltyardref17_Of.mono _ _ _
   | exact LeO.none _
   | refine LeO.ite ?_ ?_
   | refine LeO.bind ?_ (fun _ => ?_)
def tiltyardref17_Put.T10 : Bool × List (List Nat × List Nat) := (true, [([], []), ([0], [0]), ([1], [1]), ([2], [2]), ([3], [3]), ([4], [4]), ([5, 4], [4, 5]), ([6, 4], [4, 6]), ([4], [4]), ([4], [4]), ([9, 4], [4, 9]), ([8, 10, 4], [4, 8, 10]), ([11, 4], [4, 11]), ([12, 4], [4, 12]), ([7, 13, 4], [4, 7, 13]), ([4, 14], [4, 14])])
def tiltyardref17_Put.B10 : List Nat := [0, 1, 3, 7, 15, 31, 63, 127, 31, 31, 543, 1823, 3871, 7967, 16383, 32767]
theorem tiltyardref17_Put.tab10 : rtab .any (opsOf Try.f22 10) = tiltyardref17_Put.T10 := by kernel_rfl
theorem tiltyardref17_Put.bits10 : waitsOk tiltyardref17_Put.T10.2 tiltyardref17_Put.B10 = true := by kernel_rfl
def tiltyardref17_Put.T18 : Bool × List (List Nat × List Nat) := (true, [([], []), ([0], [0]), ([1], [1]), ([1], [1]), ([3, 1], [1, 3]), ([1], [1]), ([4, 5, 1], [1, 4, 5]), ([6, 1], [1, 6]), ([2, 7, 1, 1], [1, 2, 7]), ([8, 1], [1, 8]), ([1, 9], [1, 9]), ([10, 8], [10]), ([11], [11]), ([12, 11], [11, 12]), ([11], [11]), ([14, 11], [11, 14]), ([13, 15, 11], [11, 13, 15]), ([11], [11]), ([17, 11], [11, 17]), ([11], [11]), ([18, 19, 11], [11, 18, 19]), ([20, 11], [11, 20]), ([16, 21, 11, 11], [11, 16, 21]), ([11, 22], [11, 22]), ([23, 22, 0, 1, 2, 3, 4, 5, 6, 7, 8, 9, 10, 11, 12, 13, 14, 15, 16, 17, 18, 19, 20, 21, 22, 23], [0, 23])])
def tiltyardref17_Put.B18 : List Nat := [0, 1, 3, 3, 11, 3, 59, 123, 255, 511, 1023, 2047, 4095, 8191, 4095, 20479, 65535, 4095, 135167, 4095, 921599, 1970175, 4194303, 8388607, 16777215]
theorem tiltyardref17_Put.tab18 : rtab .any (opsOf Try.f22 18) = tiltyardref17_Put.T18 := by kernel_rfl
theorem tiltyardref17_Put.bits18 : waitsOk tiltyardref17_Put.T18.2 tiltyardref17_Put.B18 = true := by kernel_rfl
def tiltyardref17_Put.T23 : Bool × List (List Nat × List Nat) := (true, [([], []), ([], []), ([0, 1], [0, 1]), ([], []), ([3], [3]), ([2, 4, 2], [2, 4]), ([5, 5, 0, 1, 2, 3, 4, 5], [5]), ([6, 0, 1, 2, 3, 4, 5, 6], [])])
def tiltyardref17_Put.B23 : List Nat := [0, 0, 3, 0, 8, 31, 63, 127]
theorem tiltyardref17_Put.tab23 : rtab .any (opsOf Try.f22 23) = tiltyardref17_Put.T23 := by kernel_rfl
theorem tiltyardref17_Put.bits23 : waitsOk tiltyardref17_Put.T23.2 tiltyardref17_Put.B23 = true := by kernel_rfl
end Go.Proofs.Ytlkpmlcmgggifaa.PQueueRuns
