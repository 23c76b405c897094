/- Functions of the document as Lean functions, with their contracts: texts that the print tool printed for this seat, joined (what stands beside them was walked by hand). -/
import Derived.Test.YtlkpmlcmgggifaaXa
import Derived.Test.YtlkpmlcmgggifaaXb
namespace Go.Proofs.Ytlkpmlcmgggifaa.PQueueRuns
open Go.RowKit Go.Proofs.YtlkpmlcmgggifaaW.PrintWords Go.Proofs.YtlkpmlcmgggifaaW.PrintLast Go.Proofs.YtlkpmlcmgggifaaW.PrintMore
attribute [local go_sem] max2_int min2_int max_two min_two max_three min_three max_four min_four   -- for this text's walks alone
set_option linter.unusedVariables false
set_option linter.unusedSimpArgs false

set_option maxHeartbeats 8000000 in
set_option maxRecDepth 100000 in
theorem tiltyardref17_Put.calls (k : Nat) (P0_ : Nat → Prop) (A0 : Option Addr) (c0 : Nat) (l0 : List (S36)) (A1 : Option Addr) (c1 : Nat) (l1 : List (S123)) (a2_0 : Int) (a2_1 : Int) (P2_2_ : Nat → Prop) (A2_2 : Option Addr) (c2_2 : Nat) (l2_2 : List Int) (a2_3 : Int) (a2_4 : Int) (r1 : List (S36)) (r2 : Int) (w : World) (hs0 : Kd.V k36 36 w w.heap.size (fun k_ => P0_ k_) (.slice A0 l0.length c0) l0) (hr1 : Kd.C k123 w A1 l1.length l1) (hc1 : l1.length ≤ c1) (hs2_2 : Kd.V (Kd.int .u32) 33 w w.heap.size (fun k_ => P2_2_ k_) (.slice A2_2 l2_2.length c2_2) l2_2) (h : tiltyardref17_Put.f k l0 l1 a2_0 a2_1 l2_2 a2_3 a2_4 = some (r1, r2)) :
  Calls Try.prog 22 #[.slice A0 l0.length c0, .slice A1 l1.length c1, .agg #[.int .u32 a2_0, .int .i64 a2_1, .slice A2_2 l2_2.length c2_2, .int .i64 a2_3, .int .i64 a2_4]] w fun e w' => ∃ v0_ : Value, e = .returned (.tuple #[v0_, .int .i64 r2]) ∧ Kd.V k36 36 w' w.heap.size (fun k_ => ((P0_ k_ ∨ P2_2_ k_) ∨ w.heap.size ≤ k_)) v0_ r1 ∧ Below w.heap.size w w' := by
 have hu36 := Try.underlying36
 have HO0 := Aside0.mk (show Kd.V k36 36 w w.heap.size (fun k_ => ((P0_ k_ ∨ P2_2_ k_) ∨ w.heap.size ≤ k_)) (.slice A0 l0.length c0) l0 from Kd.V_mono hs0 (fun k_ hk => .inl (.inl hk)))
 have HR1 := Aside0.mk hr1
 have HC1 := Aside0.mk hc1
 clear hr1 hc1
 have HO2_2 := Aside0.mk (show Kd.V (Kd.int .u32) 33 w w.heap.size (fun k_ => ((P0_ k_ ∨ P2_2_ k_) ∨ w.heap.size ≤ k_)) (.slice A2_2 l2_2.length c2_2) l2_2 from Kd.V_mono hs2_2 (fun k_ hk => .inl (.inr hk)))
 have HB := Aside0.mk (Below.refl w.heap.size w)
 have H : ((tiltyardref07_Right.f a2_0).bind fun t243 => (tiltyardref17_Put.l0 k l0 l1 t243 0 a2_0 a2_1 l2_2 a2_3 a2_4)) = some (r1, r2) := h
 clear h
 replace H := Option.bind_eq_some_iff.mp H
 obtain ⟨t243, A40, H⟩ := H
 replace H : (tiltyardref17_Put.l0 k l0 l1 t243 0 a2_0 a2_1 l2_2 a2_3 a2_4) = some (r1, r2) := H
 have A4 := Aside0.mk A40
 clear A40
 have H' := Aside0.mk H
 clear H
 go_enter Try.func22, Try.ntmps22
 go_wp2_with (first | ((with_reducible refine gate_dst (N := 5) rfl ?_); (try (refine gate_guard (by rfl) ?_; dsimp only)); refine box_event ?hg (N := 5) ?hd (cs := #[.int .u32 a2_0, .int .i64 a2_1, .slice A2_2 l2_2.length c2_2, .int .i64 a2_3, .int .i64 a2_4]) (t := 36) ?hr ?_; (case hd => rfl); (case hg => rfl); (case hr => first | (go_simp; done) | (go_simp; rfl)); intro gb242 hg w5 hbox hb; have n0_ := Aside0.mk (Kd.V_below (Kd.V_elderB (by (with_reducible repeat (first | apply Kd.V_alloc | apply Kd.V_drewN | apply Kd.V_drew)); exact HO0.out) gb242 (Nat.le_of_eq hg.symm)) hb); have n1_ := Aside0.mk (Kd.V_below (Kd.V_elderB (by (with_reducible repeat (first | apply Kd.V_alloc | apply Kd.V_drewN | apply Kd.V_drew)); exact HO2_2.out) gb242 (Nat.le_of_eq hg.symm)) hb); have n2_ := Aside0.mk (below_step (by repeat (first | (with_reducible first | exact HB.out | apply below_alloc | apply pw_below_drewN | apply below_drew1) | exact HB.out)) hb); have n3_ := Aside0.mk (hbox); have n4_ := Aside0.mk ((by rw [hg]; exact (below_size (by repeat (first | (with_reducible first | exact HB.out | apply below_alloc | apply pw_below_drewN | apply below_drew1) | exact HB.out))) : w.heap.size ≤ gb242)); have n5_ := Aside0.mk ((by rw [hg]; exact (below_size (by repeat (first | (with_reducible first | exact HB.out | apply below_alloc | apply pw_below_drewN | apply below_drew1) | exact HB.out))) : w.heap.size ≤ gb242)); clear HO0; clear HO2_2; clear HB; have HO0 := n0_; have HO2_2 := n1_; have HB := n2_; have BK242 := n3_; have GW242 := n4_; have GE242 := n5_; clear n0_ n1_ n2_ n3_ n4_ n5_; clear hb hbox hg; have hcz6_0 : w5.cell? ⟨gb242, 0, none⟩ = some (.int .u32 a2_0) := (blk_cell BK242.out 0).trans rfl; have hcz6_1 : w5.cell? ⟨gb242, 1, none⟩ = some (.int .i64 a2_1) := (blk_cell BK242.out 1).trans rfl; have hcz6_2 : w5.cell? ⟨gb242, 2, none⟩ = some (.slice A2_2 l2_2.length c2_2) := (blk_cell BK242.out 2).trans rfl; have hcz6_3 : w5.cell? ⟨gb242, 3, none⟩ = some (.int .i64 a2_3) := (blk_cell BK242.out 3).trans rfl; have hcz6_4 : w5.cell? ⟨gb242, 4, none⟩ = some (.int .i64 a2_4) := (blk_cell BK242.out 4).trans rfl; have hfz6_0 := blk_frozen BK242.out 0; have hfz6_1 := blk_frozen BK242.out 1; have hfz6_2 := blk_frozen BK242.out 2; have hfz6_3 := blk_frozen BK242.out 3; have hfz6_4 := blk_frozen BK242.out 4) | ((with_reducible refine gate_callee (f := 57) rfl ?_); refine goesL_ (some 15) rfl rfl Try.func57 (by kernel_rfl) rfl #[.int .u32 a2_0] rfl (by (try simp only [List.map_toArray, List.map_cons, List.map_nil]); first | done | rfl | (simp only [List.length_drop, List.length_take]; rfl)) ?_; (with_reducible refine (tiltyardref07_Right.calls a2_0 t243 _ A4.out).mono ?_); rintro e w' ⟨rfl, ⟨nd, rfl⟩⟩; refine ⟨_, rfl, ?_⟩))
 go_loopg [8, 9] k (fun kq v8 v9 w' => ∃ (x8_1 : Bool) (x9_1 : Int), v8 = .bool x8_1 ∧ v9 = .int .i64 x9_1 ∧ Aside0 (tiltyardref17_Put.l0 kq l0 l1 x8_1 x9_1 a2_0 a2_1 l2_2 a2_3 a2_4 = some (r1, r2)) ∧ Aside0 (kq ≤ k) ∧ Aside0 (Kd.V k36 36 w' w.heap.size (fun k_ => ((P0_ k_ ∨ P2_2_ k_) ∨ w.heap.size ≤ k_) ∧ k_ ≠ gb242) (.slice A0 l0.length c0) l0) ∧ Aside0 (Kd.V (Kd.int .u32) 33 w' w.heap.size (fun k_ => ((P0_ k_ ∨ P2_2_ k_) ∨ w.heap.size ≤ k_) ∧ k_ ≠ gb242) (.slice A2_2 l2_2.length c2_2) l2_2) ∧ Aside0 (w'.heap[gb242]? = some (.cells #[.int .u32 a2_0, .int .i64 a2_1, (.slice A2_2 l2_2.length c2_2), .int .i64 a2_3, .int .i64 a2_4] 36 (0, 0))) ∧ Aside0 (Below w.heap.size w w'))
 case atStart => exact ⟨(t243), (0), (by first | rfl | (simp; done) | (simp [*]; done)), (by first | rfl | (simp; done) | (simp [*]; done)), H', ⟨Nat.le_refl _⟩, ⟨by (with_reducible repeat (first | apply Kd.V_alloc | apply Kd.V_drewN | apply Kd.V_drew)); exact HO0.out⟩, ⟨by (with_reducible repeat (first | apply Kd.V_alloc | apply Kd.V_drewN | apply Kd.V_drew)); exact HO2_2.out⟩, ⟨by (with_reducible repeat (first | refine blk_drewN ?_ _ | refine blk_drew ?_ | refine blk_alloc ?_ _)); exact BK242.out⟩, ⟨by repeat (first | (with_reducible first | exact HB.out | apply below_alloc | apply pw_below_drewN | apply below_drew1 | refine below_set ?_ GE242.out) | exact HB.out)⟩⟩
 case round =>
  clear H'
  try clear c1
  try clear c2
  try clear p2
  try clear c5
  try clear hcz6_0
  try clear hcz6_1
  try clear hcz6_2
  try clear hcz6_3
  try clear hcz6_4
  try clear hfz6_0
  try clear hfz6_1
  try clear hfz6_2
  try clear hfz6_3
  try clear hfz6_4
  obtain ⟨x8_1, x9_1, rfl, rfl, HA, HK1, HO_0, HO_243002, BK242, HB⟩ := hrel
  cases gk with
  | zero => exact absurd HA.out (by simp [tiltyardref17_Put.l0])
  | succ k1 =>
   have H := HA.out
   clear HA
   simp only [tiltyardref17_Put.l0] at H
   by_cases c7 : x9_1 < (l2_2.length : Int)
   ·rw [if_pos c7] at H
    have c7b0 : decide (x9_1 < (l2_2.length : Int)) = true := decide_eq_true c7
    clear c7
    by_cases c8 : x8_1 = true
    ·subst c8
     have H1 : (if 0 ≤ x9_1 then ((tiltyardref07_Right.f (rd l2_2 x9_1)).bind fun t245 => (tiltyardref17_Put.l0 k1 l0 l1 t245 (wrap64 (x9_1 + 1)) a2_0 a2_1 l2_2 a2_3 a2_4)) else (none)) = some (r1, r2) := by rw [if_pos rfl] at H; exact H
     clear H
     have H := H1
     clear H1
     by_cases c9 : 0 ≤ x9_1
     ·rw [if_pos c9] at H
      have c9b0 : decide (0 ≤ x9_1) = true := decide_eq_true c9
      clear c9
      replace H := Option.bind_eq_some_iff.mp H
      obtain ⟨t245, A100, H⟩ := H
      replace H : (tiltyardref17_Put.l0 k1 l0 l1 t245 (wrap64 (x9_1 + 1)) a2_0 a2_1 l2_2 a2_3 a2_4) = some (r1, r2) := H
      have A10 := Aside0.mk A100
      clear A100
      have H' := Aside0.mk H
      clear H
      have hcz11_0 : wr.cell? ⟨gb242, 0, none⟩ = some (.int .u32 a2_0) := (blk_cell BK242.out 0).trans rfl
      have hcz11_1 : wr.cell? ⟨gb242, 1, none⟩ = some (.int .i64 a2_1) := (blk_cell BK242.out 1).trans rfl
      have hcz11_2 : wr.cell? ⟨gb242, 2, none⟩ = some (.slice A2_2 l2_2.length c2_2) := (blk_cell BK242.out 2).trans rfl
      have hcz11_3 : wr.cell? ⟨gb242, 3, none⟩ = some (.int .i64 a2_3) := (blk_cell BK242.out 3).trans rfl
      have hcz11_4 : wr.cell? ⟨gb242, 4, none⟩ = some (.int .i64 a2_4) := (blk_cell BK242.out 4).trans rfl
      have hfz11_0 := blk_frozen BK242.out 0
      have hfz11_1 := blk_frozen BK242.out 1
      have hfz11_2 := blk_frozen BK242.out 2
      have hfz11_3 := blk_frozen BK242.out 3
      have hfz11_4 := blk_frozen BK242.out 4
      have p244 : 0 ≤ (x9_1 : Int) := of_decide_eq_true (by first | (with_reducible assumption) | assumption)
      have q244 : x9_1 < (l2_2.length : Int) := of_decide_eq_true (by first | (with_reducible assumption) | assumption)
      obtain ⟨ad244, e244, hx244_0⟩ := Kd.at_int (Kd.V_reads' HO_243002.out).2.2 x9_1 p244 q244
      cases e244
      replace p244 := eq_true p244
      replace q244 := eq_true q244
      go_wp2_with (first | (go_at_call 57; (with_reducible refine (tiltyardref07_Right.calls (rd l2_2 x9_1) t245 _ A10.out).mono ?_); rintro e w' ⟨rfl, ⟨nd, rfl⟩⟩))
      go_roundg k1
      case measure => have := HK1.out; omega
      case rel => exact ⟨(t245), (wrap64 (x9_1 + 1)), (by first | rfl | (simp; done) | (simp [*]; done)), (by first | rfl | (simp; done) | (simp [*]; done)), H', ⟨by have := HK1.out; omega⟩, ⟨by (with_reducible repeat (first | apply Kd.V_alloc | apply Kd.V_drewN | apply Kd.V_drew)); exact HO_0.out⟩, ⟨by (with_reducible repeat (first | apply Kd.V_alloc | apply Kd.V_drewN | apply Kd.V_drew)); exact HO_243002.out⟩, ⟨by (with_reducible repeat (first | refine blk_drewN ?_ _ | refine blk_drew ?_ | refine blk_alloc ?_ _)); exact BK242.out⟩, ⟨by repeat (first | (with_reducible first | exact HB.out | apply below_alloc | apply pw_below_drewN | apply below_drew1 | refine below_set ?_ GE242.out) | exact HB.out)⟩⟩
     ·rw [if_neg c9] at H
      exact absurd H (by simp)
    ·replace c8 := Bool.eq_false_iff.mpr c8
     subst c8
     have H1 : (tiltyardref17_Put.l0 k1 l0 l1 false (wrap64 (x9_1 + 1)) a2_0 a2_1 l2_2 a2_3 a2_4) = some (r1, r2) := by rw [if_neg (show ¬ (false = true) by decide)] at H; exact H
     clear H
     have H := H1
     clear H1
     have H' := Aside0.mk H
     clear H
     have hcz12_0 : wr.cell? ⟨gb242, 0, none⟩ = some (.int .u32 a2_0) := (blk_cell BK242.out 0).trans rfl
     have hcz12_1 : wr.cell? ⟨gb242, 1, none⟩ = some (.int .i64 a2_1) := (blk_cell BK242.out 1).trans rfl
     have hcz12_2 : wr.cell? ⟨gb242, 2, none⟩ = some (.slice A2_2 l2_2.length c2_2) := (blk_cell BK242.out 2).trans rfl
     have hcz12_3 : wr.cell? ⟨gb242, 3, none⟩ = some (.int .i64 a2_3) := (blk_cell BK242.out 3).trans rfl
     have hcz12_4 : wr.cell? ⟨gb242, 4, none⟩ = some (.int .i64 a2_4) := (blk_cell BK242.out 4).trans rfl
     have hfz12_0 := blk_frozen BK242.out 0
     have hfz12_1 := blk_frozen BK242.out 1
     have hfz12_2 := blk_frozen BK242.out 2
     have hfz12_3 := blk_frozen BK242.out 3
     have hfz12_4 := blk_frozen BK242.out 4
     go_wp2
     go_roundg k1
     case measure => have := HK1.out; omega
     case rel => exact ⟨(false), (wrap64 (x9_1 + 1)), (by first | rfl | (simp; done) | (simp [*]; done)), (by first | rfl | (simp; done) | (simp [*]; done)), H', ⟨by have := HK1.out; omega⟩, ⟨by (with_reducible repeat (first | apply Kd.V_alloc | apply Kd.V_drewN | apply Kd.V_drew)); exact HO_0.out⟩, ⟨by (with_reducible repeat (first | apply Kd.V_alloc | apply Kd.V_drewN | apply Kd.V_drew)); exact HO_243002.out⟩, ⟨by (with_reducible repeat (first | refine blk_drewN ?_ _ | refine blk_drew ?_ | refine blk_alloc ?_ _)); exact BK242.out⟩, ⟨by repeat (first | (with_reducible first | exact HB.out | apply below_alloc | apply pw_below_drewN | apply below_drew1 | refine below_set ?_ GE242.out) | exact HB.out)⟩⟩
   ·rw [if_neg c7] at H
    have c7b0 : decide (x9_1 < (l2_2.length : Int)) = false := decide_eq_false c7
    clear c7
    by_cases c13 : x8_1 = true
    ·subst c13
     have H1 : (if a2_1 < 0 then (tiltyardref17_Put.j1 k1 l0 l1 true a2_0 a2_1 l2_2 a2_3 a2_4) else (tiltyardref17_Put.j1 k1 l0 l1 (decide (a2_1 ≥ (l1.length : Int))) a2_0 a2_1 l2_2 a2_3 a2_4)) = some (r1, r2) := by rw [if_pos rfl] at H; exact H
     clear H
     have H := H1
     clear H1
     have HC14 := Aside0.mk H
     clear H
     have hcz15_0 : wr.cell? ⟨gb242, 0, none⟩ = some (.int .u32 a2_0) := (blk_cell BK242.out 0).trans rfl
     have hcz15_1 : wr.cell? ⟨gb242, 1, none⟩ = some (.int .i64 a2_1) := (blk_cell BK242.out 1).trans rfl
     have hcz15_2 : wr.cell? ⟨gb242, 2, none⟩ = some (.slice A2_2 l2_2.length c2_2) := (blk_cell BK242.out 2).trans rfl
     have hcz15_3 : wr.cell? ⟨gb242, 3, none⟩ = some (.int .i64 a2_3) := (blk_cell BK242.out 3).trans rfl
     have hcz15_4 : wr.cell? ⟨gb242, 4, none⟩ = some (.int .i64 a2_4) := (blk_cell BK242.out 4).trans rfl
     have hfz15_0 := blk_frozen BK242.out 0
     have hfz15_1 := blk_frozen BK242.out 1
     have hfz15_2 := blk_frozen BK242.out 2
     have hfz15_3 := blk_frozen BK242.out 3
     have hfz15_4 := blk_frozen BK242.out 4
     go_upto_region 8 with (fail)
     go_cut [44] (fun v44 wc => ∃ (kq : Nat) (x44_13 : Bool), v44 = .bool x44_13 ∧ Aside0 (tiltyardref17_Put.j1 kq l0 l1 x44_13 a2_0 a2_1 l2_2 a2_3 a2_4 = some (r1, r2)) ∧ Aside0 (kq ≤ k1) ∧ Aside0 (Kd.V k36 36 wc w.heap.size (fun k_ => ((P0_ k_ ∨ P2_2_ k_) ∨ w.heap.size ≤ k_) ∧ k_ ≠ gb242) (.slice A0 l0.length c0) l0) ∧ Aside0 (Kd.V (Kd.int .u32) 33 wc w.heap.size (fun k_ => ((P0_ k_ ∨ P2_2_ k_) ∨ w.heap.size ≤ k_) ∧ k_ ≠ gb242) (.slice A2_2 l2_2.length c2_2) l2_2) ∧ Aside0 (wc.heap[gb242]? = some (.cells #[.int .u32 a2_0, .int .i64 a2_1, (.slice A2_2 l2_2.length c2_2), .int .i64 a2_3, .int .i64 a2_4] 36 (0, 0))) ∧ Aside0 (Below w.heap.size w wc))
     case first =>
      have H := HC14.out
      clear HC14
      by_cases c16 : a2_1 < 0
      ·rw [if_pos c16] at H
       have c16b0 : decide (a2_1 < 0) = true := decide_eq_true c16
       clear c16
       (first | rw [c16b0] | (simp only [i64_w, i32_w]; rw [c16b0]) | skip)
       have H' := Aside0.mk H
       clear H
       have hcz17_0 : wr.cell? ⟨gb242, 0, none⟩ = some (.int .u32 a2_0) := (blk_cell BK242.out 0).trans rfl
       have hcz17_1 : wr.cell? ⟨gb242, 1, none⟩ = some (.int .i64 a2_1) := (blk_cell BK242.out 1).trans rfl
       have hcz17_2 : wr.cell? ⟨gb242, 2, none⟩ = some (.slice A2_2 l2_2.length c2_2) := (blk_cell BK242.out 2).trans rfl
       have hcz17_3 : wr.cell? ⟨gb242, 3, none⟩ = some (.int .i64 a2_3) := (blk_cell BK242.out 3).trans rfl
       have hcz17_4 : wr.cell? ⟨gb242, 4, none⟩ = some (.int .i64 a2_4) := (blk_cell BK242.out 4).trans rfl
       have hfz17_0 := blk_frozen BK242.out 0
       have hfz17_1 := blk_frozen BK242.out 1
       have hfz17_2 := blk_frozen BK242.out 2
       have hfz17_3 := blk_frozen BK242.out 3
       have hfz17_4 := blk_frozen BK242.out 4
       go_wp2
       go_meet
       case rel => exact ⟨_, (true), (by first | rfl | (simp; done) | (simp [*]; done)), H', ⟨by have := HK1.out; first | omega | exact Nat.le_refl _⟩, ⟨by (with_reducible repeat (first | apply Kd.V_alloc | apply Kd.V_drewN | apply Kd.V_drew)); exact HO_0.out⟩, ⟨by (with_reducible repeat (first | apply Kd.V_alloc | apply Kd.V_drewN | apply Kd.V_drew)); exact HO_243002.out⟩, ⟨by (with_reducible repeat (first | refine blk_drewN ?_ _ | refine blk_drew ?_ | refine blk_alloc ?_ _)); exact BK242.out⟩, ⟨by repeat (first | (with_reducible first | exact HB.out | apply below_alloc | apply pw_below_drewN | apply below_drew1 | refine below_set ?_ GE242.out) | exact HB.out)⟩⟩
      ·rw [if_neg c16] at H
       have c16b0 : decide (a2_1 < 0) = false := decide_eq_false c16
       clear c16
       (first | rw [c16b0] | (simp only [i64_w, i32_w]; rw [c16b0]) | skip)
       have H' := Aside0.mk H
       clear H
       have hcz18_0 : wr.cell? ⟨gb242, 0, none⟩ = some (.int .u32 a2_0) := (blk_cell BK242.out 0).trans rfl
       have hcz18_1 : wr.cell? ⟨gb242, 1, none⟩ = some (.int .i64 a2_1) := (blk_cell BK242.out 1).trans rfl
       have hcz18_2 : wr.cell? ⟨gb242, 2, none⟩ = some (.slice A2_2 l2_2.length c2_2) := (blk_cell BK242.out 2).trans rfl
       have hcz18_3 : wr.cell? ⟨gb242, 3, none⟩ = some (.int .i64 a2_3) := (blk_cell BK242.out 3).trans rfl
       have hcz18_4 : wr.cell? ⟨gb242, 4, none⟩ = some (.int .i64 a2_4) := (blk_cell BK242.out 4).trans rfl
       have hfz18_0 := blk_frozen BK242.out 0
       have hfz18_1 := blk_frozen BK242.out 1
       have hfz18_2 := blk_frozen BK242.out 2
       have hfz18_3 := blk_frozen BK242.out 3
       have hfz18_4 := blk_frozen BK242.out 4
       go_wp2
       go_meet
       case rel => exact ⟨_, (decide (a2_1 ≥ (l1.length : Int))), (by first | rfl | (simp; done) | (simp [*]; done)), H', ⟨by have := HK1.out; first | omega | exact Nat.le_refl _⟩, ⟨by (with_reducible repeat (first | apply Kd.V_alloc | apply Kd.V_drewN | apply Kd.V_drew)); exact HO_0.out⟩, ⟨by (with_reducible repeat (first | apply Kd.V_alloc | apply Kd.V_drewN | apply Kd.V_drew)); exact HO_243002.out⟩, ⟨by (with_reducible repeat (first | refine blk_drewN ?_ _ | refine blk_drew ?_ | refine blk_alloc ?_ _)); exact BK242.out⟩, ⟨by repeat (first | (with_reducible first | exact HB.out | apply below_alloc | apply pw_below_drewN | apply below_drew1 | refine below_set ?_ GE242.out) | exact HB.out)⟩⟩
     case rest =>
      clear HC14
      try clear c1
      try clear c2
      try clear p2
      try clear q2
      try clear hx2
      try clear c5
      try clear p6
      try clear c7
      try clear c7b0
      try clear c8
      try clear c9
      try clear c9b0
      try clear c13
      try clear c16
      try clear c16b0
      try clear hcz11_0
      try clear hcz11_1
      try clear hcz11_2
      try clear hcz11_3
      try clear hcz11_4
      try clear hcz12_0
      try clear hcz12_1
      try clear hcz12_2
      try clear hcz12_3
      try clear hcz12_4
      try clear hcz15_0
      try clear hcz15_1
      try clear hcz15_2
      try clear hcz15_3
      try clear hcz15_4
      try clear hcz17_0
      try clear hcz17_1
      try clear hcz17_2
      try clear hcz17_3
      try clear hcz17_4
      try clear hcz18_0
      try clear hcz18_1
      try clear hcz18_2
      try clear hcz18_3
      try clear hcz18_4
      try clear hcz6_0
      try clear hcz6_1
      try clear hcz6_2
      try clear hcz6_3
      try clear hcz6_4
      try clear hfz11_0
      try clear hfz11_1
      try clear hfz11_2
      try clear hfz11_3
      try clear hfz11_4
      try clear hfz12_0
      try clear hfz12_1
      try clear hfz12_2
      try clear hfz12_3
      try clear hfz12_4
      try clear hfz15_0
      try clear hfz15_1
      try clear hfz15_2
      try clear hfz15_3
      try clear hfz15_4
      try clear hfz17_0
      try clear hfz17_1
      try clear hfz17_2
      try clear hfz17_3
      try clear hfz17_4
      try clear hfz18_0
      try clear hfz18_1
      try clear hfz18_2
      try clear hfz18_3
      try clear hfz18_4
      try clear hfz6_0
      try clear hfz6_1
      try clear hfz6_2
      try clear hfz6_3
      try clear hfz6_4
      try clear hx244_0
      try clear p2
      try clear p244
      try clear q244
      obtain ⟨kq, x44_13, rfl, HA, HJ13, HO_0, HO_243002, BK242, HB⟩ := hcut
      cases kq with
      | zero => exact absurd HA.out (by simp [tiltyardref17_Put.j1])
      | succ kj13 =>
       have H := HA.out
       clear HA
       simp only [tiltyardref17_Put.j1] at H
       by_cases c19 : x44_13 = true
       ·subst c19
        have H1 : (some (l0, 20)) = some (r1, r2) := by rw [if_pos rfl] at H; exact H
        clear H
        have H := H1
        clear H1
        simp only [Option.some.injEq, Prod.mk.injEq] at H
        obtain ⟨rfl, rfl⟩ := H
        go_wp2
        go_ret2
        exact ⟨_, by first | rfl | (simp [errW_none, errW_some] <;> rfl) | (simp [*, errW_none, errW_some] <;> rfl), by (with_reducible repeat (first | apply Kd.V_alloc | apply Kd.V_drewN | apply Kd.V_drew)); exact Kd.V_mono HO_0.out (fun _ hk => hk.1), by repeat (first | (with_reducible first | exact HB.out | apply below_alloc | apply pw_below_drewN | apply below_drew1 | refine below_set ?_ GE242.out) | exact HB.out)⟩
       ·replace c19 := Bool.eq_false_iff.mpr c19
        subst c19
        have H1 : (if (l2_2.length : Int) = 0 then (tiltyardref17_Put.j2 kj13 l0 true a2_0 a2_1 l2_2 a2_3 a2_4) else (if 0 ≤ a2_1 then (if a2_1 < (l1.length : Int) then (tiltyardref17_Put.j2 kj13 l0 (decide ((l2_2.length : Int) > ((rd_T123 l1 a2_1).f0))) a2_0 a2_1 l2_2 a2_3 a2_4) else (none)) else (none))) = some (r1, r2) := by rw [if_neg (show ¬ (false = true) by decide)] at H; exact H
        clear H
        have H := H1
        clear H1
        have HC20 := Aside0.mk H
        clear H
        go_upto_region 10 with (fail)
        go_cut [61] (fun v61 wc => ∃ (kq : Nat) (x61_19 : Bool), v61 = .bool x61_19 ∧ Aside0 (tiltyardref17_Put.j2 kq l0 x61_19 a2_0 a2_1 l2_2 a2_3 a2_4 = some (r1, r2)) ∧ Aside0 (kq ≤ kj13) ∧ Aside0 (Kd.V k36 36 wc w.heap.size (fun k_ => ((P0_ k_ ∨ P2_2_ k_) ∨ w.heap.size ≤ k_) ∧ k_ ≠ gb242) (.slice A0 l0.length c0) l0) ∧ Aside0 (Kd.V (Kd.int .u32) 33 wc w.heap.size (fun k_ => ((P0_ k_ ∨ P2_2_ k_) ∨ w.heap.size ≤ k_) ∧ k_ ≠ gb242) (.slice A2_2 l2_2.length c2_2) l2_2) ∧ Aside0 (wc.heap[gb242]? = some (.cells #[.int .u32 a2_0, .int .i64 a2_1, (.slice A2_2 l2_2.length c2_2), .int .i64 a2_3, .int .i64 a2_4] 36 (0, 0))) ∧ Aside0 (Below w.heap.size w wc))
        case first =>
         have H := HC20.out
         clear HC20
         by_cases c21 : (l2_2.length : Int) = 0
         ·rw [if_pos c21] at H
          have c21b0 : ((l2_2.length : Int) == 0) = true := beq_iff_eq.mpr c21
          have c21b1 : ((l2_2.length : Int) != 0) = false := bne_eq_false_iff_eq.mpr c21
          clear c21
          (first | rw [c21b0] | (simp only [i64_w, i32_w]; rw [c21b0]) | skip)
          have H' := Aside0.mk H
          clear H
          try go_wp2
          have n0_ := Aside0.mk (Kd.V_drew HO_0.out)
          have n1_ := Aside0.mk (Kd.V_drew HO_243002.out)
          have n2_ := Aside0.mk (blk_drew BK242.out)
          have n3_ := Aside0.mk (below_drew1 HB.out)
          clear HO_0
          clear HO_243002
          clear BK242
          clear HB
          have HO_0 := n0_
          have HO_243002 := n1_
          have BK242 := n2_
          have HB := n3_
          clear n0_ n1_ n2_ n3_
          refine start_ (n := 16) (S := fun w' => w'.cell? ⟨gb242, 0, none⟩ = some (.int .u32 a2_0) ∧ w'.cell? ⟨gb242, 1, none⟩ = some (.int .i64 a2_1) ∧ w'.cell? ⟨gb242, 2, none⟩ = some (.slice A2_2 l2_2.length c2_2) ∧ w'.cell? ⟨gb242, 3, none⟩ = some (.int .i64 a2_3) ∧ w'.cell? ⟨gb242, 4, none⟩ = some (.int .i64 a2_4)) (ds := []) #[false, false, false, false, false, false, false, false, false, false, false, false, false, false, false, false] (by kernel_rfl) rfl rfl ⟨(blk_cell BK242.out 0).trans rfl, (blk_cell BK242.out 1).trans rfl, (blk_cell BK242.out 2).trans rfl, (blk_cell BK242.out 3).trans rfl, (blk_cell BK242.out 4).trans rfl⟩ (fun hHeld => ?_); refine with_tabW tiltyardref17_Put.tab10 tiltyardref17_Put.bits10 (fun HT_ HW_ => ?_)
          generalize wc.drew = w22 at HO_0 HO_243002 BK242 HB hHeld ⊢
          refine pure_ (i := 0) (N := some 46) (v := ?_) (a' := ?_) #[true, false, false, false, false, false, false, false, false, false, false, false, false, false, false, false] rfl rfl (any_of HT_.out (by kernel_rfl)) (fun _ _ _ h => h) (Or.inl ⟨by rfl, ?_⟩) ?_ ?_
          rotate_left
          ·intro w'
           go_simp
           with_reducible rfl
          rotate_left
          ·simp only [Act.put, List.setIfInBounds_toArray, List.set_cons_zero, List.set_cons_succ, i64_w, i32_w]
           rfl
          refine take_ (i := 1) (N := some 47) (v := ?_) (a' := ?_) #[true, true, false, false, false, false, false, false, false, false, false, false, false, false, false, false] rfl rfl (take_ofW HT_.out HW_.out (by kernel_rfl)) (fun _ _ _ h => h) (Or.inl ⟨by rfl, ?_⟩) hHeld ?_ ?_
          rotate_left
          ·rintro w' ⟨s0, s1, s2, s3, s4⟩
           go_simp
           with_reducible rfl
          rotate_left
          ·simp only [Act.put, List.setIfInBounds_toArray, List.set_cons_zero, List.set_cons_succ, i64_w, i32_w]
           rfl
          refine pure_ (i := 2) (N := some 48) (v := ?_) (a' := ?_) #[true, true, true, false, false, false, false, false, false, false, false, false, false, false, false, false] rfl rfl (any_of HT_.out (by kernel_rfl)) (fun _ _ _ h => h) (Or.inl ⟨by rfl, ?_⟩) ?_ ?_
          rotate_left
          ·intro w'
           go_simp
           with_reducible rfl
          rotate_left
          ·simp only [Act.put, List.setIfInBounds_toArray, List.set_cons_zero, List.set_cons_succ, i64_w, i32_w]
           rfl
          refine pure_ (i := 3) (N := some 49) (v := ?_) (a' := ?_) #[true, true, true, true, false, false, false, false, false, false, false, false, false, false, false, false] rfl rfl (any_of HT_.out (by kernel_rfl)) (fun _ _ _ h => h) (Or.inl ⟨by rfl, ?_⟩) ?_ ?_
          rotate_left
          ·intro w'
           go_simp
           with_reducible rfl
          rotate_left
          ·simp only [Act.put, List.setIfInBounds_toArray, List.set_cons_zero, List.set_cons_succ, i64_w, i32_w]
           rfl
          refine pure_ (i := 4) (N := some 50) (v := ?_) (a' := ?_) #[true, true, true, true, true, false, false, false, false, false, false, false, false, false, false, false] rfl rfl (any_of HT_.out (by kernel_rfl)) (fun _ _ _ h => h) (Or.inl ⟨by rfl, ?_⟩) ?_ ?_
          rotate_left
          ·intro w'
           go_simp
           with_reducible rfl
          rotate_left
          ·simp only [Act.put, List.setIfInBounds_toArray, List.set_cons_zero, List.set_cons_succ, i64_w, i32_w]
           rfl
          refine pure_ (i := 5) (N := some 51) (v := undef) (a' := ?_) #[true, true, true, true, true, true, false, false, false, false, false, false, false, false, false, false] rfl rfl (any_of HT_.out (by kernel_rfl)) (fun _ _ _ h => h) (Or.inr ⟨by rfl, rfl⟩) ?_ ?_
          rotate_left
          ·simp only [Act.put, List.setIfInBounds_toArray, List.set_cons_zero, List.set_cons_succ, i64_w, i32_w]
           rfl
          refine pure_ (i := 6) (N := some 52) (v := undef) (a' := ?_) #[true, true, true, true, true, true, true, false, false, false, false, false, false, false, false, false] rfl rfl (any_of HT_.out (by kernel_rfl)) (fun _ _ _ h => h) (Or.inr ⟨by rfl, rfl⟩) ?_ ?_
          rotate_left
          ·simp only [Act.put, List.setIfInBounds_toArray, List.set_cons_zero, List.set_cons_succ, i64_w, i32_w]
           rfl
          refine pure_ (i := 7) (N := some 53) (v := undef) (a' := ?_) #[true, true, true, true, true, true, true, true, false, false, false, false, false, false, false, false] rfl rfl (any_of HT_.out (by kernel_rfl)) (fun _ _ _ h => h) (Or.inr ⟨by rfl, rfl⟩) ?_ ?_
          rotate_left
          ·simp only [Act.put, List.setIfInBounds_toArray, List.set_cons_zero, List.set_cons_succ, i64_w, i32_w]
           rfl
          refine pure_ (i := 8) (N := some 54) (v := undef) (a' := ?_) #[true, true, true, true, true, true, true, true, true, false, false, false, false, false, false, false] rfl rfl (any_of HT_.out (by kernel_rfl)) (fun _ _ _ h => h) (Or.inr ⟨by rfl, rfl⟩) ?_ ?_
          rotate_left
          ·simp only [Act.put, List.setIfInBounds_toArray, List.set_cons_zero, List.set_cons_succ, i64_w, i32_w]
           rfl
          refine pure_ (i := 9) (N := some 55) (v := undef) (a' := ?_) #[true, true, true, true, true, true, true, true, true, true, false, false, false, false, false, false] rfl rfl (any_of HT_.out (by kernel_rfl)) (fun _ _ _ h => h) (Or.inr ⟨by rfl, rfl⟩) ?_ ?_
          rotate_left
          ·simp only [Act.put, List.setIfInBounds_toArray, List.set_cons_zero, List.set_cons_succ, i64_w, i32_w]
           rfl
          refine pure_ (i := 10) (N := some 56) (v := undef) (a' := ?_) #[true, true, true, true, true, true, true, true, true, true, true, false, false, false, false, false] rfl rfl (any_of HT_.out (by kernel_rfl)) (fun _ _ _ h => h) (Or.inr ⟨by rfl, rfl⟩) ?_ ?_
          rotate_left
          ·simp only [Act.put, List.setIfInBounds_toArray, List.set_cons_zero, List.set_cons_succ, i64_w, i32_w]
           rfl
          refine pure_ (i := 11) (N := some 57) (v := undef) (a' := ?_) #[true, true, true, true, true, true, true, true, true, true, true, true, false, false, false, false] rfl rfl (any_of HT_.out (by kernel_rfl)) (fun _ _ _ h => h) (Or.inr ⟨by rfl, rfl⟩) ?_ ?_
          rotate_left
          ·simp only [Act.put, List.setIfInBounds_toArray, List.set_cons_zero, List.set_cons_succ, i64_w, i32_w]
           rfl
          refine pure_ (i := 12) (N := some 58) (v := undef) (a' := ?_) #[true, true, true, true, true, true, true, true, true, true, true, true, true, false, false, false] rfl rfl (any_of HT_.out (by kernel_rfl)) (fun _ _ _ h => h) (Or.inr ⟨by rfl, rfl⟩) ?_ ?_
          rotate_left
          ·simp only [Act.put, List.setIfInBounds_toArray, List.set_cons_zero, List.set_cons_succ, i64_w, i32_w]
           rfl
          refine pure_ (i := 13) (N := some 59) (v := undef) (a' := ?_) #[true, true, true, true, true, true, true, true, true, true, true, true, true, true, false, false] rfl rfl (any_of HT_.out (by kernel_rfl)) (fun _ _ _ h => h) (Or.inr ⟨by rfl, rfl⟩) ?_ ?_
          rotate_left
          ·simp only [Act.put, List.setIfInBounds_toArray, List.set_cons_zero, List.set_cons_succ, i64_w, i32_w]
           rfl
          refine pure_ (i := 14) (N := some 60) (v := undef) (a' := ?_) #[true, true, true, true, true, true, true, true, true, true, true, true, true, true, true, false] rfl rfl (any_of HT_.out (by kernel_rfl)) (fun _ _ _ h => h) (Or.inr ⟨by rfl, rfl⟩) ?_ ?_
          rotate_left
          ·simp only [Act.put, List.setIfInBounds_toArray, List.set_cons_zero, List.set_cons_succ, i64_w, i32_w]
           rfl
          refine pure_ (i := 15) (N := some 61) (v := ?_) (a' := ?_) #[true, true, true, true, true, true, true, true, true, true, true, true, true, true, true, true] rfl rfl (any_of HT_.out (by kernel_rfl)) (fun _ _ _ h => h) (Or.inl ⟨by rfl, ?_⟩) ?_ ?_
          rotate_left
          ·intro w'
           go_simp
           with_reducible rfl
          rotate_left
          ·simp only [Act.put, List.setIfInBounds_toArray, List.set_cons_zero, List.set_cons_succ, i64_w, i32_w]
           rfl
          refine done_ (done_of HT_.out (by kernel_rfl)) ?_
          try go_wp2
          go_meet
          case rel => exact ⟨_, (true), (by first | rfl | (simp; done) | (simp [*]; done)), H', ⟨by have := HK1.out; have := HJ13.out; first | omega | exact Nat.le_refl _⟩, ⟨by (with_reducible repeat (first | apply Kd.V_alloc | apply Kd.V_drewN | apply Kd.V_drew)); exact HO_0.out⟩, ⟨by (with_reducible repeat (first | apply Kd.V_alloc | apply Kd.V_drewN | apply Kd.V_drew)); exact HO_243002.out⟩, ⟨by (with_reducible repeat (first | refine blk_drewN ?_ _ | refine blk_drew ?_ | refine blk_alloc ?_ _)); exact BK242.out⟩, ⟨by repeat (first | (with_reducible first | exact HB.out | apply below_alloc | apply pw_below_drewN | apply below_drew1 | refine below_set ?_ GE242.out) | exact HB.out)⟩⟩
         ·rw [if_neg c21] at H
          have c21b0 : ((l2_2.length : Int) == 0) = false := beq_eq_false_iff_ne.mpr c21
          have c21b1 : ((l2_2.length : Int) != 0) = true := bne_iff_ne.mpr c21
          have c21b2 : ¬ (l2_2 = []) := fun h_ => c21 (by rw [h_]; rfl)
          (first | rw [c21b0] | (simp only [i64_w, i32_w]; rw [c21b0]) | skip)
          by_cases c23 : 0 ≤ a2_1
          ·rw [if_pos c23] at H
           have c23b0 : decide (0 ≤ a2_1) = true := decide_eq_true c23
           clear c23
           by_cases c24 : a2_1 < (l1.length : Int)
           ·rw [if_pos c24] at H
            have c24b0 : decide (a2_1 < (l1.length : Int)) = true := decide_eq_true c24
            clear c24
            have H' := Aside0.mk H
            clear H
            try go_wp2
            have n0_ := Aside0.mk (Kd.V_drew HO_0.out)
            have n1_ := Aside0.mk (Kd.V_drew HO_243002.out)
            have n2_ := Aside0.mk (blk_drew BK242.out)
            have n3_ := Aside0.mk (below_drew1 HB.out)
            clear HO_0
            clear HO_243002
            clear BK242
            clear HB
            have HO_0 := n0_
            have HO_243002 := n1_
            have BK242 := n2_
            have HB := n3_
            clear n0_ n1_ n2_ n3_
            have p246 : 0 ≤ (a2_1 : Int) := of_decide_eq_true (by first | (with_reducible assumption) | assumption)
            have q246 : a2_1 < (l1.length : Int) := of_decide_eq_true (by first | (with_reducible assumption) | assumption)
            obtain ⟨ad246, e246, hx246_0, hx246_1, hx246_2, hx246_3, hx246_4⟩ := at_T123 HR1.out a2_1 p246 q246
            have hw246_4 := hx246_4
            have hw246_3 := hx246_3
            have hw246_2 := hx246_2
            have hw246_1 := hx246_1
            have hw246_0 := hx246_0
            cases e246
            replace hx246_0 := (HB.out.cell (World.block_lt_of_cell? w _ hx246_0)).trans hx246_0
            replace hx246_1 := (HB.out.cell (World.block_lt_of_cell? w _ hx246_1)).trans hx246_1
            replace hx246_2 := (HB.out.cell (World.block_lt_of_cell? w _ hx246_2)).trans hx246_2
            replace hx246_3 := (HB.out.cell (World.block_lt_of_cell? w _ hx246_3)).trans hx246_3
            replace hx246_4 := (HB.out.cell (World.block_lt_of_cell? w _ hx246_4)).trans hx246_4
            replace p246 := eq_true p246
            replace q246 := eq_true q246
            refine start_ (n := 16) (S := fun w' => w'.cell? ⟨gb242, 0, none⟩ = some (.int .u32 a2_0) ∧ w'.cell? ⟨gb242, 1, none⟩ = some (.int .i64 a2_1) ∧ w'.cell? ⟨gb242, 2, none⟩ = some (.slice A2_2 l2_2.length c2_2) ∧ w'.cell? ⟨gb242, 3, none⟩ = some (.int .i64 a2_3) ∧ w'.cell? ⟨gb242, 4, none⟩ = some (.int .i64 a2_4) ∧ w'.cell? (ad246.add ((a2_1).toNat * 5)) = some (.int .i64 ((rd_T123 l1 a2_1).f0)) ∧ w'.cell? ⟨(ad246.add ((a2_1).toNat * 5)).block, (ad246.add ((a2_1).toNat * 5)).off + 1, none⟩ = some (.int .i64 ((rd_T123 l1 a2_1).f1)) ∧ w'.cell? ⟨(ad246.add ((a2_1).toNat * 5)).block, (ad246.add ((a2_1).toNat * 5)).off + 2, none⟩ = some (.int .i64 ((rd_T123 l1 a2_1).f2)) ∧ w'.cell? ⟨(ad246.add ((a2_1).toNat * 5)).block, (ad246.add ((a2_1).toNat * 5)).off + 3, none⟩ = some (.int .i64 ((rd_T123 l1 a2_1).f3)) ∧ w'.cell? ⟨(ad246.add ((a2_1).toNat * 5)).block, (ad246.add ((a2_1).toNat * 5)).off + 4, none⟩ = some (.int .i64 ((rd_T123 l1 a2_1).f4))) (ds := []) #[false, false, false, false, false, false, false, false, false, false, false, false, false, false, false, false] (by kernel_rfl) rfl rfl ⟨(blk_cell BK242.out 0).trans rfl, (blk_cell BK242.out 1).trans rfl, (blk_cell BK242.out 2).trans rfl, (blk_cell BK242.out 3).trans rfl, (blk_cell BK242.out 4).trans rfl, ((HB.out.cell (World.block_lt_of_cell? w _ hw246_0)).trans hw246_0), ((HB.out.cell (World.block_lt_of_cell? w _ hw246_1)).trans hw246_1), ((HB.out.cell (World.block_lt_of_cell? w _ hw246_2)).trans hw246_2), ((HB.out.cell (World.block_lt_of_cell? w _ hw246_3)).trans hw246_3), ((HB.out.cell (World.block_lt_of_cell? w _ hw246_4)).trans hw246_4)⟩ (fun hHeld => ?_); refine with_tabW tiltyardref17_Put.tab10 tiltyardref17_Put.bits10 (fun HT_ HW_ => ?_)
            generalize wc.drew = w25 at HO_0 HO_243002 BK242 HB hx246_0 hx246_1 hx246_2 hx246_3 hx246_4 hHeld ⊢
            refine pure_ (i := 0) (N := some 46) (v := ?_) (a' := ?_) #[true, false, false, false, false, false, false, false, false, false, false, false, false, false, false, false] rfl rfl (any_of HT_.out (by kernel_rfl)) (fun _ _ _ h => h) (Or.inl ⟨by rfl, ?_⟩) ?_ ?_
            rotate_left
            ·intro w'
             go_simp
             with_reducible rfl
            rotate_left
            ·simp only [Act.put, List.setIfInBounds_toArray, List.set_cons_zero, List.set_cons_succ, i64_w, i32_w]
             rfl
            refine take_ (i := 1) (N := some 47) (v := ?_) (a' := ?_) #[true, true, false, false, false, false, false, false, false, false, false, false, false, false, false, false] rfl rfl (take_ofW HT_.out HW_.out (by kernel_rfl)) (fun _ _ _ h => h) (Or.inl ⟨by rfl, ?_⟩) hHeld ?_ ?_
            rotate_left
            ·rintro w' ⟨s0, s1, s2, s3, s4, s5, s6, s7, s8, s9⟩
             go_simp
             with_reducible rfl
            rotate_left
            ·simp only [Act.put, List.setIfInBounds_toArray, List.set_cons_zero, List.set_cons_succ, i64_w, i32_w]
             rfl
            refine pure_ (i := 2) (N := some 48) (v := ?_) (a' := ?_) #[true, true, true, false, false, false, false, false, false, false, false, false, false, false, false, false] rfl rfl (any_of HT_.out (by kernel_rfl)) (fun _ _ _ h => h) (Or.inl ⟨by rfl, ?_⟩) ?_ ?_
            rotate_left
            ·intro w'
             go_simp
             with_reducible rfl
            rotate_left
            ·simp only [Act.put, List.setIfInBounds_toArray, List.set_cons_zero, List.set_cons_succ, i64_w, i32_w]
             rfl
            refine pure_ (i := 3) (N := some 49) (v := ?_) (a' := ?_) #[true, true, true, true, false, false, false, false, false, false, false, false, false, false, false, false] rfl rfl (any_of HT_.out (by kernel_rfl)) (fun _ _ _ h => h) (Or.inl ⟨by rfl, ?_⟩) ?_ ?_
            rotate_left
            ·intro w'
             go_simp
             with_reducible rfl
            rotate_left
            ·simp only [Act.put, List.setIfInBounds_toArray, List.set_cons_zero, List.set_cons_succ, i64_w, i32_w]
             rfl
            refine pure_ (i := 4) (N := some 50) (v := ?_) (a' := ?_) #[true, true, true, true, true, false, false, false, false, false, false, false, false, false, false, false] rfl rfl (any_of HT_.out (by kernel_rfl)) (fun _ _ _ h => h) (Or.inl ⟨by rfl, ?_⟩) ?_ ?_
            rotate_left
            ·intro w'
             go_simp
             with_reducible rfl
            rotate_left
            ·simp only [Act.put, List.setIfInBounds_toArray, List.set_cons_zero, List.set_cons_succ, i64_w, i32_w]
             rfl
            refine pure_ (i := 5) (N := some 51) (v := ?_) (a' := ?_) #[true, true, true, true, true, true, false, false, false, false, false, false, false, false, false, false] rfl rfl (any_of HT_.out (by kernel_rfl)) (fun _ _ _ h => h) (Or.inl ⟨by rfl, ?_⟩) ?_ ?_
            rotate_left
            ·intro w'
             go_simp
             with_reducible rfl
            rotate_left
            ·simp only [Act.put, List.setIfInBounds_toArray, List.set_cons_zero, List.set_cons_succ, i64_w, i32_w]
             rfl
            refine pure_ (i := 8) (N := some 54) (v := ?_) (a' := ?_) #[true, true, true, true, true, true, false, false, true, false, false, false, false, false, false, false] rfl rfl (any_of HT_.out (by kernel_rfl)) (fun _ _ _ h => h) (Or.inl ⟨by rfl, ?_⟩) ?_ ?_
            rotate_left
            ·intro w'
             go_simp
             with_reducible rfl
            rotate_left
            ·simp only [Act.put, List.setIfInBounds_toArray, List.set_cons_zero, List.set_cons_succ, i64_w, i32_w]
             rfl
            refine pure_ (i := 9) (N := some 55) (v := ?_) (a' := ?_) #[true, true, true, true, true, true, false, false, true, true, false, false, false, false, false, false] rfl rfl (any_of HT_.out (by kernel_rfl)) (fun _ _ _ h => h) (Or.inl ⟨by rfl, ?_⟩) ?_ ?_
            rotate_left
            ·intro w'
             go_simp
             with_reducible rfl
            rotate_left
            ·simp only [Act.put, List.setIfInBounds_toArray, List.set_cons_zero, List.set_cons_succ, i64_w, i32_w]
             rfl
            refine take_ (i := 6) (N := some 52) (v := ?_) (a' := ?_) #[true, true, true, true, true, true, true, false, true, true, false, false, false, false, false, false] rfl rfl (take_ofW HT_.out HW_.out (by kernel_rfl)) (fun _ _ _ h => h) (Or.inl ⟨by rfl, ?_⟩) hHeld ?_ ?_
            rotate_left
            ·rintro w' ⟨s0, s1, s2, s3, s4, s5, s6, s7, s8, s9⟩
             go_simp
             with_reducible rfl
            rotate_left
            ·simp only [Act.put, List.setIfInBounds_toArray, List.set_cons_zero, List.set_cons_succ, i64_w, i32_w]
             rfl
            refine pure_ (i := 7) (N := some 53) (v := ?_) (a' := ?_) #[true, true, true, true, true, true, true, true, true, true, false, false, false, false, false, false] rfl rfl (any_of HT_.out (by kernel_rfl)) (fun _ _ _ h => h) (Or.inl ⟨by rfl, ?_⟩) ?_ ?_
            rotate_left
            ·intro w'
             go_simp
             with_reducible rfl
            rotate_left
            ·simp only [Act.put, List.setIfInBounds_toArray, List.set_cons_zero, List.set_cons_succ, i64_w, i32_w]
             rfl
            refine take_ (i := 10) (N := some 56) (v := ?_) (a' := ?_) #[true, true, true, true, true, true, true, true, true, true, true, false, false, false, false, false] rfl rfl (take_ofW HT_.out HW_.out (by kernel_rfl)) (fun _ _ _ h => h) (Or.inl ⟨by rfl, ?_⟩) hHeld ?_ ?_
            rotate_left
            ·rintro w' ⟨s0, s1, s2, s3, s4, s5, s6, s7, s8, s9⟩
             go_simp
             with_reducible rfl
            rotate_left
            ·simp only [Act.put, List.setIfInBounds_toArray, List.set_cons_zero, List.set_cons_succ, i64_w, i32_w]
             rfl
            refine pure_ (i := 11) (N := some 57) (v := ?_) (a' := ?_) #[true, true, true, true, true, true, true, true, true, true, true, true, false, false, false, false] rfl rfl (any_of HT_.out (by kernel_rfl)) (fun _ _ _ h => h) (Or.inl ⟨by rfl, ?_⟩) ?_ ?_
            rotate_left
            ·intro w'
             go_simp
             with_reducible rfl
            rotate_left
            ·simp only [Act.put, List.setIfInBounds_toArray, List.set_cons_zero, List.set_cons_succ, i64_w, i32_w]
             rfl
            refine pure_ (i := 12) (N := some 58) (v := ?_) (a' := ?_) #[true, true, true, true, true, true, true, true, true, true, true, true, true, false, false, false] rfl rfl (any_of HT_.out (by kernel_rfl)) (fun _ _ _ h => h) (Or.inl ⟨by rfl, ?_⟩) ?_ ?_
            rotate_left
            ·intro w'
             go_simp
             with_reducible rfl
            rotate_left
            ·simp only [Act.put, List.setIfInBounds_toArray, List.set_cons_zero, List.set_cons_succ, i64_w, i32_w]
             rfl
            refine take_ (i := 13) (N := some 59) (v := ?_) (a' := ?_) #[true, true, true, true, true, true, true, true, true, true, true, true, true, true, false, false] rfl rfl (take_ofW HT_.out HW_.out (by kernel_rfl)) (fun _ _ _ h => h) (Or.inl ⟨by rfl, ?_⟩) hHeld ?_ ?_
            rotate_left
            ·rintro w' ⟨s0, s1, s2, s3, s4, s5, s6, s7, s8, s9⟩
             go_simp
             with_reducible rfl
            rotate_left
            ·simp only [Act.put, List.setIfInBounds_toArray, List.set_cons_zero, List.set_cons_succ, i64_w, i32_w]
             rfl
            refine pure_ (i := 14) (N := some 60) (v := ?_) (a' := ?_) #[true, true, true, true, true, true, true, true, true, true, true, true, true, true, true, false] rfl rfl (any_of HT_.out (by kernel_rfl)) (fun _ _ _ h => h) (Or.inl ⟨by rfl, ?_⟩) ?_ ?_
            rotate_left
            ·intro w'
             go_simp
             with_reducible rfl
            rotate_left
            ·simp only [Act.put, List.setIfInBounds_toArray, List.set_cons_zero, List.set_cons_succ, i64_w, i32_w]
             rfl
            refine pure_ (i := 15) (N := some 61) (v := ?_) (a' := ?_) #[true, true, true, true, true, true, true, true, true, true, true, true, true, true, true, true] rfl rfl (any_of HT_.out (by kernel_rfl)) (fun _ _ _ h => h) (Or.inl ⟨by rfl, ?_⟩) ?_ ?_
            rotate_left
            ·intro w'
             go_simp
             with_reducible rfl
            rotate_left
            ·simp only [Act.put, List.setIfInBounds_toArray, List.set_cons_zero, List.set_cons_succ, i64_w, i32_w]
             rfl
            refine done_ (done_of HT_.out (by kernel_rfl)) ?_
            try go_wp2
            go_meet
            case rel => exact ⟨_, (decide ((l2_2.length : Int) > ((rd_T123 l1 a2_1).f0))), (by first | rfl | (simp; done) | (simp [*]; done)), H', ⟨by have := HK1.out; have := HJ13.out; first | omega | exact Nat.le_refl _⟩, ⟨by (with_reducible repeat (first | apply Kd.V_alloc | apply Kd.V_drewN | apply Kd.V_drew)); exact HO_0.out⟩, ⟨by (with_reducible repeat (first | apply Kd.V_alloc | apply Kd.V_drewN | apply Kd.V_drew)); exact HO_243002.out⟩, ⟨by (with_reducible repeat (first | refine blk_drewN ?_ _ | refine blk_drew ?_ | refine blk_alloc ?_ _)); exact BK242.out⟩, ⟨by repeat (first | (with_reducible first | exact HB.out | apply below_alloc | apply pw_below_drewN | apply below_drew1 | refine below_set ?_ GE242.out) | exact HB.out)⟩⟩
           ·rw [if_neg c24] at H
            exact absurd H (by simp)
          ·rw [if_neg c23] at H
           exact absurd H (by simp)
        case rest =>
         clear HC20
         try clear c1
         try clear c2
         try clear p2
         try clear q2
         try clear hx2
         try clear c5
         try clear p6
         try clear c7
         try clear c7b0
         try clear c8
         try clear c9
         try clear c9b0
         try clear c13
         try clear c16
         try clear c16b0
         try clear c19
         try clear c21
         try clear c21b0
         try clear c21b1
         try clear c21b2
         try clear c22
         try clear c23
         try clear c23b0
         try clear c24
         try clear c24b0
         try clear p24
         try clear q24
         try clear hx24
         try clear hcz11_0
         try clear hcz11_1
         try clear hcz11_2
         try clear hcz11_3
         try clear hcz11_4
         try clear hcz12_0
         try clear hcz12_1
         try clear hcz12_2
         try clear hcz12_3
         try clear hcz12_4
         try clear hcz15_0
         try clear hcz15_1
         try clear hcz15_2
         try clear hcz15_3
         try clear hcz15_4
         try clear hcz17_0
         try clear hcz17_1
         try clear hcz17_2
         try clear hcz17_3
         try clear hcz17_4
         try clear hcz18_0
         try clear hcz18_1
         try clear hcz18_2
         try clear hcz18_3
         try clear hcz18_4
         try clear hcz6_0
         try clear hcz6_1
         try clear hcz6_2
         try clear hcz6_3
         try clear hcz6_4
         try clear hfz11_0
         try clear hfz11_1
         try clear hfz11_2
         try clear hfz11_3
         try clear hfz11_4
         try clear hfz12_0
         try clear hfz12_1
         try clear hfz12_2
         try clear hfz12_3
         try clear hfz12_4
         try clear hfz15_0
         try clear hfz15_1
         try clear hfz15_2
         try clear hfz15_3
         try clear hfz15_4
         try clear hfz17_0
         try clear hfz17_1
         try clear hfz17_2
         try clear hfz17_3
         try clear hfz17_4
         try clear hfz18_0
         try clear hfz18_1
         try clear hfz18_2
         try clear hfz18_3
         try clear hfz18_4
         try clear hfz6_0
         try clear hfz6_1
         try clear hfz6_2
         try clear hfz6_3
         try clear hfz6_4
         try clear hx244_0
         try clear hx246_0
         try clear hx246_1
         try clear hx246_2
         try clear hx246_3
         try clear hx246_4
         try clear p2
         try clear p244
         try clear p246
         try clear p6
         try clear q2
         try clear q244
         try clear q246
         obtain ⟨kq, x61_19, rfl, HA, HJ19, HO_0, HO_243002, BK242, HB⟩ := hcut
         cases kq with
         | zero => exact absurd HA.out (by simp [tiltyardref17_Put.j2])
         | succ kj19 =>
          have H := HA.out
          clear HA
          simp only [tiltyardref17_Put.j2] at H
          by_cases c26 : x61_19 = true
          ·subst c26
           have H1 : (some (l0, 21)) = some (r1, r2) := by rw [if_pos rfl] at H; exact H
           clear H
           have H := H1
           clear H1
           simp only [Option.some.injEq, Prod.mk.injEq] at H
           obtain ⟨rfl, rfl⟩ := H
           go_wp2
           go_ret2
           exact ⟨_, by first | rfl | (simp [errW_none, errW_some] <;> rfl) | (simp [*, errW_none, errW_some] <;> rfl), by (with_reducible repeat (first | apply Kd.V_alloc | apply Kd.V_drewN | apply Kd.V_drew)); exact Kd.V_mono HO_0.out (fun _ hk => hk.1), by repeat (first | (with_reducible first | exact HB.out | apply below_alloc | apply pw_below_drewN | apply below_drew1 | refine below_set ?_ GE242.out) | exact HB.out)⟩
          ·replace c26 := Bool.eq_false_iff.mpr c26
           subst c26
           have H1 : (if a2_3 < 0 then (tiltyardref17_Put.j3 kj19 l0 true a2_0 a2_1 l2_2 a2_3 a2_4) else (tiltyardref17_Put.j3 kj19 l0 (decide (a2_3 > 10000)) a2_0 a2_1 l2_2 a2_3 a2_4)) = some (r1, r2) := by rw [if_neg (show ¬ (false = true) by decide)] at H; exact H
           clear H
           have H := H1
           clear H1
           have HC27 := Aside0.mk H
           clear H
           go_upto_region 12 with (fail)
           go_cut [70] (fun v70 wc => ∃ (kq : Nat) (x70_26 : Bool), v70 = .bool x70_26 ∧ Aside0 (tiltyardref17_Put.j3 kq l0 x70_26 a2_0 a2_1 l2_2 a2_3 a2_4 = some (r1, r2)) ∧ Aside0 (kq ≤ kj19) ∧ Aside0 (Kd.V k36 36 wc w.heap.size (fun k_ => ((P0_ k_ ∨ P2_2_ k_) ∨ w.heap.size ≤ k_) ∧ k_ ≠ gb242) (.slice A0 l0.length c0) l0) ∧ Aside0 (Kd.V (Kd.int .u32) 33 wc w.heap.size (fun k_ => ((P0_ k_ ∨ P2_2_ k_) ∨ w.heap.size ≤ k_) ∧ k_ ≠ gb242) (.slice A2_2 l2_2.length c2_2) l2_2) ∧ Aside0 (wc.heap[gb242]? = some (.cells #[.int .u32 a2_0, .int .i64 a2_1, (.slice A2_2 l2_2.length c2_2), .int .i64 a2_3, .int .i64 a2_4] 36 (0, 0))) ∧ Aside0 (Below w.heap.size w wc))
           case first =>
            have H := HC27.out
            clear HC27
            by_cases c28 : a2_3 < 0
            ·rw [if_pos c28] at H
             have c28b0 : decide (a2_3 < 0) = true := decide_eq_true c28
             clear c28
             (first | rw [c28b0] | (simp only [i64_w, i32_w]; rw [c28b0]) | skip)
             have H' := Aside0.mk H
             clear H
             have hcz29_0 : wc.cell? ⟨gb242, 0, none⟩ = some (.int .u32 a2_0) := (blk_cell BK242.out 0).trans rfl
             have hcz29_1 : wc.cell? ⟨gb242, 1, none⟩ = some (.int .i64 a2_1) := (blk_cell BK242.out 1).trans rfl
             have hcz29_2 : wc.cell? ⟨gb242, 2, none⟩ = some (.slice A2_2 l2_2.length c2_2) := (blk_cell BK242.out 2).trans rfl
             have hcz29_3 : wc.cell? ⟨gb242, 3, none⟩ = some (.int .i64 a2_3) := (blk_cell BK242.out 3).trans rfl
             have hcz29_4 : wc.cell? ⟨gb242, 4, none⟩ = some (.int .i64 a2_4) := (blk_cell BK242.out 4).trans rfl
             have hfz29_0 := blk_frozen BK242.out 0
             have hfz29_1 := blk_frozen BK242.out 1
             have hfz29_2 := blk_frozen BK242.out 2
             have hfz29_3 := blk_frozen BK242.out 3
             have hfz29_4 := blk_frozen BK242.out 4
             go_wp2
             go_meet
             case rel => exact ⟨_, (true), (by first | rfl | (simp; done) | (simp [*]; done)), H', ⟨by have := HK1.out; have := HJ13.out; have := HJ19.out; first | omega | exact Nat.le_refl _⟩, ⟨by (with_reducible repeat (first | apply Kd.V_alloc | apply Kd.V_drewN | apply Kd.V_drew)); exact HO_0.out⟩, ⟨by (with_reducible repeat (first | apply Kd.V_alloc | apply Kd.V_drewN | apply Kd.V_drew)); exact HO_243002.out⟩, ⟨by (with_reducible repeat (first | refine blk_drewN ?_ _ | refine blk_drew ?_ | refine blk_alloc ?_ _)); exact BK242.out⟩, ⟨by repeat (first | (with_reducible first | exact HB.out | apply below_alloc | apply pw_below_drewN | apply below_drew1 | refine below_set ?_ GE242.out) | exact HB.out)⟩⟩
            ·rw [if_neg c28] at H
             have c28b0 : decide (a2_3 < 0) = false := decide_eq_false c28
             clear c28
             (first | rw [c28b0] | (simp only [i64_w, i32_w]; rw [c28b0]) | skip)
             have H' := Aside0.mk H
             clear H
             have hcz30_0 : wc.cell? ⟨gb242, 0, none⟩ = some (.int .u32 a2_0) := (blk_cell BK242.out 0).trans rfl
             have hcz30_1 : wc.cell? ⟨gb242, 1, none⟩ = some (.int .i64 a2_1) := (blk_cell BK242.out 1).trans rfl
             have hcz30_2 : wc.cell? ⟨gb242, 2, none⟩ = some (.slice A2_2 l2_2.length c2_2) := (blk_cell BK242.out 2).trans rfl
             have hcz30_3 : wc.cell? ⟨gb242, 3, none⟩ = some (.int .i64 a2_3) := (blk_cell BK242.out 3).trans rfl
             have hcz30_4 : wc.cell? ⟨gb242, 4, none⟩ = some (.int .i64 a2_4) := (blk_cell BK242.out 4).trans rfl
             have hfz30_0 := blk_frozen BK242.out 0
             have hfz30_1 := blk_frozen BK242.out 1
             have hfz30_2 := blk_frozen BK242.out 2
             have hfz30_3 := blk_frozen BK242.out 3
             have hfz30_4 := blk_frozen BK242.out 4
             go_wp2
             go_meet
             case rel => exact ⟨_, (decide (a2_3 > 10000)), (by first | rfl | (simp; done) | (simp [*]; done)), H', ⟨by have := HK1.out; have := HJ13.out; have := HJ19.out; first | omega | exact Nat.le_refl _⟩, ⟨by (with_reducible repeat (first | apply Kd.V_alloc | apply Kd.V_drewN | apply Kd.V_drew)); exact HO_0.out⟩, ⟨by (with_reducible repeat (first | apply Kd.V_alloc | apply Kd.V_drewN | apply Kd.V_drew)); exact HO_243002.out⟩, ⟨by (with_reducible repeat (first | refine blk_drewN ?_ _ | refine blk_drew ?_ | refine blk_alloc ?_ _)); exact BK242.out⟩, ⟨by repeat (first | (with_reducible first | exact HB.out | apply below_alloc | apply pw_below_drewN | apply below_drew1 | refine below_set ?_ GE242.out) | exact HB.out)⟩⟩
           case rest =>
            clear HC27
            try clear c1
            try clear c2
            try clear p2
            try clear q2
            try clear hx2
            try clear c5
            try clear p6
            try clear c7
            try clear c7b0
            try clear c8
            try clear c9
            try clear c9b0
            try clear c13
            try clear c16
            try clear c16b0
            try clear c19
            try clear c21
            try clear c21b0
            try clear c21b1
            try clear c21b2
            try clear c22
            try clear c23
            try clear c23b0
            try clear c24
            try clear c24b0
            try clear p24
            try clear q24
            try clear hx24
            try clear c26
            try clear c28
            try clear c28b0
            try clear hcz11_0
            try clear hcz11_1
            try clear hcz11_2
            try clear hcz11_3
            try clear hcz11_4
            try clear hcz12_0
            try clear hcz12_1
            try clear hcz12_2
            try clear hcz12_3
            try clear hcz12_4
            try clear hcz15_0
            try clear hcz15_1
            try clear hcz15_2
            try clear hcz15_3
            try clear hcz15_4
            try clear hcz17_0
            try clear hcz17_1
            try clear hcz17_2
            try clear hcz17_3
            try clear hcz17_4
            try clear hcz18_0
            try clear hcz18_1
            try clear hcz18_2
            try clear hcz18_3
            try clear hcz18_4
            try clear hcz29_0
            try clear hcz29_1
            try clear hcz29_2
            try clear hcz29_3
            try clear hcz29_4
            try clear hcz30_0
            try clear hcz30_1
            try clear hcz30_2
            try clear hcz30_3
            try clear hcz30_4
            try clear hcz6_0
            try clear hcz6_1
            try clear hcz6_2
            try clear hcz6_3
            try clear hcz6_4
            try clear hfz11_0
            try clear hfz11_1
            try clear hfz11_2
            try clear hfz11_3
            try clear hfz11_4
            try clear hfz12_0
            try clear hfz12_1
            try clear hfz12_2
            try clear hfz12_3
            try clear hfz12_4
            try clear hfz15_0
            try clear hfz15_1
            try clear hfz15_2
            try clear hfz15_3
            try clear hfz15_4
            try clear hfz17_0
            try clear hfz17_1
            try clear hfz17_2
            try clear hfz17_3
            try clear hfz17_4
            try clear hfz18_0
            try clear hfz18_1
            try clear hfz18_2
            try clear hfz18_3
            try clear hfz18_4
            try clear hfz29_0
            try clear hfz29_1
            try clear hfz29_2
            try clear hfz29_3
            try clear hfz29_4
            try clear hfz30_0
            try clear hfz30_1
            try clear hfz30_2
            try clear hfz30_3
            try clear hfz30_4
            try clear hfz6_0
            try clear hfz6_1
            try clear hfz6_2
            try clear hfz6_3
            try clear hfz6_4
            try clear hx244_0
            try clear hx246_0
            try clear hx246_1
            try clear hx246_2
            try clear hx246_3
            try clear hx246_4
            try clear p2
            try clear p24
            try clear p244
            try clear p246
            try clear p6
            try clear q2
            try clear q24
            try clear q244
            try clear q246
            obtain ⟨kq, x70_26, rfl, HA, HJ26, HO_0, HO_243002, BK242, HB⟩ := hcut
            cases kq with
            | zero => exact absurd HA.out (by simp [tiltyardref17_Put.j3])
            | succ kj26 =>
             have H := HA.out
             clear HA
             simp only [tiltyardref17_Put.j3] at H
             by_cases c31 : x70_26 = true
             ·subst c31
              have H1 : (some (l0, 2)) = some (r1, r2) := by rw [if_pos rfl] at H; exact H
              clear H
              have H := H1
              clear H1
              simp only [Option.some.injEq, Prod.mk.injEq] at H
              obtain ⟨rfl, rfl⟩ := H
              go_wp2
              go_ret2
              exact ⟨_, by first | rfl | (simp [errW_none, errW_some] <;> rfl) | (simp [*, errW_none, errW_some] <;> rfl), by (with_reducible repeat (first | apply Kd.V_alloc | apply Kd.V_drewN | apply Kd.V_drew)); exact Kd.V_mono HO_0.out (fun _ hk => hk.1), by repeat (first | (with_reducible first | exact HB.out | apply below_alloc | apply pw_below_drewN | apply below_drew1 | refine below_set ?_ GE242.out) | exact HB.out)⟩
             ·replace c31 := Bool.eq_false_iff.mpr c31
              subst c31
              have H1 : ((tiltyardref17_Get.f kj26 l0 a2_0).bind fun bt247 => (tiltyardref17_Put.l1 kj26 l0 bt247.2.2.2.2.2 0 a2_0 a2_1 l2_2 a2_3 a2_4)) = some (r1, r2) := by rw [if_neg (show ¬ (false = true) by decide)] at H; exact H
              clear H
              have H := H1
              clear H1
              replace H := Option.bind_eq_some_iff.mp H
              obtain ⟨⟨t247, t248, t249, t252, t253, t254⟩, A320, H⟩ := H
              replace H : (tiltyardref17_Put.l1 kj26 l0 t254 0 a2_0 a2_1 l2_2 a2_3 a2_4) = some (r1, r2) := H
              have A32 := Aside0.mk A320
              clear A320
              have H' := Aside0.mk H
              clear H
              have hcz33_0 : wc.cell? ⟨gb242, 0, none⟩ = some (.int .u32 a2_0) := (blk_cell BK242.out 0).trans rfl
              have hcz33_1 : wc.cell? ⟨gb242, 1, none⟩ = some (.int .i64 a2_1) := (blk_cell BK242.out 1).trans rfl
              have hcz33_2 : wc.cell? ⟨gb242, 2, none⟩ = some (.slice A2_2 l2_2.length c2_2) := (blk_cell BK242.out 2).trans rfl
              have hcz33_3 : wc.cell? ⟨gb242, 3, none⟩ = some (.int .i64 a2_3) := (blk_cell BK242.out 3).trans rfl
              have hcz33_4 : wc.cell? ⟨gb242, 4, none⟩ = some (.int .i64 a2_4) := (blk_cell BK242.out 4).trans rfl
              have hfz33_0 := blk_frozen BK242.out 0
              have hfz33_1 := blk_frozen BK242.out 1
              have hfz33_2 := blk_frozen BK242.out 2
              have hfz33_3 := blk_frozen BK242.out 3
              have hfz33_4 := blk_frozen BK242.out 4
              go_wp2_with (first | ((with_reducible refine gate_callee (f := 19) rfl ?_); refine goesL_ (some 76) rfl rfl Try.func19 (by kernel_rfl) rfl #[.slice A0 l0.length c0, .int .u32 a2_0] rfl (by (try simp only [List.map_toArray, List.map_cons, List.map_nil]); first | done | rfl | (simp only [List.length_drop, List.length_take]; rfl)) ?_; (with_reducible refine (tiltyardref17_Get.calls kj26 (fun k_ => (((P0_ k_ ∨ P2_2_ k_) ∨ w.heap.size ≤ k_) ∧ k_ ≠ gb242)) _ _ l0 a2_0 t247 t248 t249 t252 t253 t254 _ ?side1 A32.out).mono ?_); (case side1 => exact HO_0.out); rintro e w34 ⟨v250, rfl, ho0, hb⟩; refine ⟨_, rfl, ?_⟩; have n0_ := Aside0.mk (Kd.V_below (by (with_reducible repeat (first | apply Kd.V_alloc | apply Kd.V_drewN | apply Kd.V_drew)); exact HO_0.out) hb); have n1_ := Aside0.mk (Kd.V_below (by (with_reducible repeat (first | apply Kd.V_alloc | apply Kd.V_drewN | apply Kd.V_drew)); exact HO_243002.out) hb); have n2_ := Aside0.mk (Kd.V_lower (Kd.V_mono (ok' := fun k_ => ((P0_ k_ ∨ P2_2_ k_) ∨ w.heap.size ≤ k_) ∧ k_ ≠ gb242) ho0 (fun k_ hk_ => ⟨Or.elim hk_ (fun hs_ => hs_.1) (fun hn_ => (.inr (Nat.le_trans (below_size (by repeat (first | (with_reducible first | exact HB.out | apply below_alloc | apply pw_below_drewN | apply below_drew1 | refine below_set ?_ GE242.out) | exact HB.out))) hn_))), Or.elim hk_ (fun hs_ => hs_.2) (fun hn_ => (Kd.freshB (g := gb242) (o := .cells #[.int .u32 a2_0, .int .i64 a2_1, .slice A2_2 l2_2.length c2_2, .int .i64 a2_3, .int .i64 a2_4] 36 (0, 0)) (by (with_reducible repeat (first | refine blk_drewN ?_ _ | refine blk_drew ?_ | refine blk_alloc ?_ _)); exact BK242.out) k_ hn_))⟩)) (below_size (by repeat (first | (with_reducible first | exact HB.out | apply below_alloc | apply pw_below_drewN | apply below_drew1 | refine below_set ?_ GE242.out) | exact HB.out)))); have n3_ := Aside0.mk (blk_below (g := gb242) (o := .cells #[.int .u32 a2_0, .int .i64 a2_1, .slice A2_2 l2_2.length c2_2, .int .i64 a2_3, .int .i64 a2_4] 36 (0, 0)) (by (with_reducible repeat (first | refine blk_drewN ?_ _ | refine blk_drew ?_ | refine blk_alloc ?_ _)); exact BK242.out) hb); have n4_ := Aside0.mk (below_step (by repeat (first | (with_reducible first | exact HB.out | apply below_alloc | apply pw_below_drewN | apply below_drew1 | refine below_set ?_ GE242.out) | exact HB.out)) hb); clear HO_0; clear HO_243002; clear BK242; clear HB; have HO_0 := n0_; have HO_243002 := n1_; have HO251 := n2_; have BK242 := n3_; have HB := n4_; clear n0_ n1_ n2_ n3_ n4_; (try clear hb); (try clear hb2); (try clear hk); (try clear hi); (try clear ho0)) | ((with_reducible refine gate_dst (N := 10) rfl ?_); (try (refine gate_guard (by rfl) ?_; dsimp only)); refine box_event ?hg (N := 10) ?hd (cs := #[.int .u32 0, .int .i64 0, .slice none 0 0, .int .i64 0, .int .i64 0]) (t := 36) ?hr ?_; (case hd => rfl); (case hg => rfl); (case hr => first | (go_simp; done) | (go_simp; rfl)); intro gb255 hg w35 hbox hb; have n0_ := Aside0.mk (Kd.V_below (Kd.V_elderB (by (with_reducible repeat (first | apply Kd.V_alloc | apply Kd.V_drewN | apply Kd.V_drew)); exact HO_0.out) gb255 (Nat.le_of_eq hg.symm)) hb); have n1_ := Aside0.mk (Kd.V_below (Kd.V_elderB (by (with_reducible repeat (first | apply Kd.V_alloc | apply Kd.V_drewN | apply Kd.V_drew)); exact HO_243002.out) gb255 (Nat.le_of_eq hg.symm)) hb); have n2_ := Aside0.mk (Kd.V_below (Kd.V_elderB (by (with_reducible repeat (first | apply Kd.V_alloc | apply Kd.V_drewN | apply Kd.V_drew)); exact HO251.out) gb255 (Nat.le_of_eq hg.symm)) hb); have n3_ := Aside0.mk (blk_below (g := gb242) (o := .cells #[.int .u32 a2_0, .int .i64 a2_1, .slice A2_2 l2_2.length c2_2, .int .i64 a2_3, .int .i64 a2_4] 36 (0, 0)) (by (with_reducible repeat (first | refine blk_drewN ?_ _ | refine blk_drew ?_ | refine blk_alloc ?_ _)); exact BK242.out) hb); have n4_ := Aside0.mk (below_step (by repeat (first | (with_reducible first | exact HB.out | apply below_alloc | apply pw_below_drewN | apply below_drew1 | refine below_set ?_ GE242.out) | exact HB.out)) hb); have n5_ := Aside0.mk (hbox); have n6_ := Aside0.mk ((by rw [hg]; exact (below_size (by repeat (first | (with_reducible first | exact HB.out | apply below_alloc | apply pw_below_drewN | apply below_drew1 | refine below_set ?_ GE242.out) | exact HB.out))) : w.heap.size ≤ gb255)); have n7_ := Aside0.mk ((by rw [hg]; exact (below_size (by repeat (first | (with_reducible first | exact HB.out | apply below_alloc | apply pw_below_drewN | apply below_drew1 | refine below_set ?_ GE242.out) | exact HB.out))) : w.heap.size ≤ gb255)); have n8_ := Aside0.mk ((by rw [hg]; exact Nat.ne_of_lt (blk_lt (g := gb242) (o := .cells #[.int .u32 a2_0, .int .i64 a2_1, .slice A2_2 l2_2.length c2_2, .int .i64 a2_3, .int .i64 a2_4] 36 (0, 0)) (by (with_reducible repeat (first | refine blk_drewN ?_ _ | refine blk_drew ?_ | refine blk_alloc ?_ _)); exact BK242.out)) : gb242 ≠ gb255)); have n9_ := Aside0.mk ((by rw [hg]; exact Nat.ne_of_gt (blk_lt (g := gb242) (o := .cells #[.int .u32 a2_0, .int .i64 a2_1, .slice A2_2 l2_2.length c2_2, .int .i64 a2_3, .int .i64 a2_4] 36 (0, 0)) (by (with_reducible repeat (first | refine blk_drewN ?_ _ | refine blk_drew ?_ | refine blk_alloc ?_ _)); exact BK242.out)) : gb255 ≠ gb242)); clear HO_0; clear HO_243002; clear HO251; clear BK242; clear HB; have HO_0 := n0_; have HO_243002 := n1_; have HO251 := n2_; have BK242 := n3_; have HB := n4_; have BK255 := n5_; have GW255 := n6_; have GE255 := n7_; have NB242_255 := n8_; have NB255_242 := n9_; clear n0_ n1_ n2_ n3_ n4_ n5_ n6_ n7_ n8_ n9_; clear hb hbox hg; have hnb36 := NB255_242.out; have hnc36 := NB242_255.out; have hcz37_0 : w35.cell? ⟨gb255, 0, none⟩ = some (.int .u32 0) := (blk_cell BK255.out 0).trans rfl; have hcz37_1 : w35.cell? ⟨gb255, 1, none⟩ = some (.int .i64 0) := (blk_cell BK255.out 1).trans rfl; have hcz37_2 : w35.cell? ⟨gb255, 2, none⟩ = some (.slice none 0 0) := (blk_cell BK255.out 2).trans rfl; have hcz37_3 : w35.cell? ⟨gb255, 3, none⟩ = some (.int .i64 0) := (blk_cell BK255.out 3).trans rfl; have hcz37_4 : w35.cell? ⟨gb255, 4, none⟩ = some (.int .i64 0) := (blk_cell BK255.out 4).trans rfl; have hfz37_0 := blk_frozen BK255.out 0; have hfz37_1 := blk_frozen BK255.out 1; have hfz37_2 := blk_frozen BK255.out 2; have hfz37_3 := blk_frozen BK255.out 3; have hfz37_4 := blk_frozen BK255.out 4; obtain ⟨Ao38, co38, eo38⟩ := Kd.V_slice HO251.out; subst eo38))
              go_loopg [11, 12] kj26 (fun kq v11 v12 w' => ∃ (x11_5 : Bool) (x12_5 : Int), v11 = .bool x11_5 ∧ v12 = .int .i64 x12_5 ∧ Aside0 (tiltyardref17_Put.l1 kq l0 x11_5 x12_5 a2_0 a2_1 l2_2 a2_3 a2_4 = some (r1, r2)) ∧ Aside0 (kq ≤ kj26) ∧ Aside0 (Kd.V k36 36 w' w.heap.size (fun k_ => ((P0_ k_ ∨ P2_2_ k_) ∨ w.heap.size ≤ k_) ∧ k_ ≠ gb242 ∧ k_ ≠ gb255) (.slice A0 l0.length c0) l0) ∧ Aside0 (Kd.V (Kd.int .u32) 33 w' w.heap.size (fun k_ => ((P0_ k_ ∨ P2_2_ k_) ∨ w.heap.size ≤ k_) ∧ k_ ≠ gb242 ∧ k_ ≠ gb255) (.slice A2_2 l2_2.length c2_2) l2_2) ∧ Aside0 (Kd.V (Kd.int .u32) 33 w' w.heap.size (fun k_ => ((P0_ k_ ∨ P2_2_ k_) ∨ w.heap.size ≤ k_) ∧ k_ ≠ gb242 ∧ k_ ≠ gb255) (.slice Ao38 t249.length co38) t249) ∧ Aside0 (w'.heap[gb242]? = some (.cells #[.int .u32 a2_0, .int .i64 a2_1, (.slice A2_2 l2_2.length c2_2), .int .i64 a2_3, .int .i64 a2_4] 36 (0, 0))) ∧ Aside0 (w'.heap[gb255]? = some (.cells #[.int .u32 t247, .int .i64 t248, (.slice Ao38 t249.length co38), .int .i64 t252, .int .i64 t253] 36 (0, 0))) ∧ Aside0 (Below w.heap.size w w'))
              case atStart => exact ⟨(t254), (0), (by first | rfl | (simp; done) | (simp [*]; done)), (by first | rfl | (simp; done) | (simp [*]; done)), H', ⟨Nat.le_refl _⟩, ⟨by (with_reducible repeat (first | apply Kd.V_alloc | apply Kd.V_drewN | apply Kd.V_drew)); exact Kd.V_mono (Kd.V_far (p := ⟨gb255, 4, none⟩) (Kd.V_far (p := ⟨gb255, 3, none⟩) (Kd.V_far (p := ⟨gb255, 2, none⟩) (Kd.V_far (p := ⟨gb255, 1, none⟩) (Kd.V_far (p := ⟨gb255, 0, none⟩) (Kd.V_mono HO_0.out (fun k_ hk => (⟨hk, hk.2⟩ : _ ∧ k_ ≠ gb255))) (fun _ hk => hk.2) (.int .u32 t247)) (fun _ hk => hk.2) (.int .i64 t248)) (fun _ hk => hk.2) (.slice Ao38 t249.length co38)) (fun _ hk => hk.2) (.int .i64 t252)) (fun _ hk => hk.2) (.int .i64 t253)) (fun _ hk => ⟨hk.1.1.1, ⟨hk.1.1.2, hk.1.2⟩⟩)⟩, ⟨by (with_reducible repeat (first | apply Kd.V_alloc | apply Kd.V_drewN | apply Kd.V_drew)); exact Kd.V_mono (Kd.V_far (p := ⟨gb255, 4, none⟩) (Kd.V_far (p := ⟨gb255, 3, none⟩) (Kd.V_far (p := ⟨gb255, 2, none⟩) (Kd.V_far (p := ⟨gb255, 1, none⟩) (Kd.V_far (p := ⟨gb255, 0, none⟩) (Kd.V_mono HO_243002.out (fun k_ hk => (⟨hk, hk.2⟩ : _ ∧ k_ ≠ gb255))) (fun _ hk => hk.2) (.int .u32 t247)) (fun _ hk => hk.2) (.int .i64 t248)) (fun _ hk => hk.2) (.slice Ao38 t249.length co38)) (fun _ hk => hk.2) (.int .i64 t252)) (fun _ hk => hk.2) (.int .i64 t253)) (fun _ hk => ⟨hk.1.1.1, ⟨hk.1.1.2, hk.1.2⟩⟩)⟩, ⟨by (with_reducible repeat (first | apply Kd.V_alloc | apply Kd.V_drewN | apply Kd.V_drew)); exact Kd.V_mono (Kd.V_far (p := ⟨gb255, 4, none⟩) (Kd.V_far (p := ⟨gb255, 3, none⟩) (Kd.V_far (p := ⟨gb255, 2, none⟩) (Kd.V_far (p := ⟨gb255, 1, none⟩) (Kd.V_far (p := ⟨gb255, 0, none⟩) (Kd.V_mono HO251.out (fun k_ hk => (⟨hk, hk.2⟩ : _ ∧ k_ ≠ gb255))) (fun _ hk => hk.2) (.int .u32 t247)) (fun _ hk => hk.2) (.int .i64 t248)) (fun _ hk => hk.2) (.slice Ao38 t249.length co38)) (fun _ hk => hk.2) (.int .i64 t252)) (fun _ hk => hk.2) (.int .i64 t253)) (fun _ hk => ⟨hk.1.1.1, ⟨hk.1.1.2, hk.1.2⟩⟩)⟩, ⟨by (with_reducible repeat (first | refine blk_drewN ?_ _ | refine blk_drew ?_ | refine blk_alloc ?_ _)); refine blk_far ?_ NB242_255.out _; (with_reducible repeat (first | refine blk_drewN ?_ _ | refine blk_drew ?_ | refine blk_alloc ?_ _)); refine blk_far ?_ NB242_255.out _; (with_reducible repeat (first | refine blk_drewN ?_ _ | refine blk_drew ?_ | refine blk_alloc ?_ _)); refine blk_far ?_ NB242_255.out _; (with_reducible repeat (first | refine blk_drewN ?_ _ | refine blk_drew ?_ | refine blk_alloc ?_ _)); refine blk_far ?_ NB242_255.out _; (with_reducible repeat (first | refine blk_drewN ?_ _ | refine blk_drew ?_ | refine blk_alloc ?_ _)); refine blk_far ?_ NB242_255.out _; (with_reducible repeat (first | refine blk_drewN ?_ _ | refine blk_drew ?_ | refine blk_alloc ?_ _)); exact BK242.out⟩, ⟨by (with_reducible repeat (first | refine blk_drewN ?_ _ | refine blk_drew ?_ | refine blk_alloc ?_ _)); refine blk_put (cs := #[.int .u32 t247, .int .i64 t248, .slice Ao38 t249.length co38, .int .i64 t252, .int .i64 0]) ?_ 4 _ rfl; (with_reducible repeat (first | refine blk_drewN ?_ _ | refine blk_drew ?_ | refine blk_alloc ?_ _)); refine blk_put (cs := #[.int .u32 t247, .int .i64 t248, .slice Ao38 t249.length co38, .int .i64 0, .int .i64 0]) ?_ 3 _ rfl; (with_reducible repeat (first | refine blk_drewN ?_ _ | refine blk_drew ?_ | refine blk_alloc ?_ _)); refine blk_put (cs := #[.int .u32 t247, .int .i64 t248, .slice none 0 0, .int .i64 0, .int .i64 0]) ?_ 2 _ rfl; (with_reducible repeat (first | refine blk_drewN ?_ _ | refine blk_drew ?_ | refine blk_alloc ?_ _)); refine blk_put (cs := #[.int .u32 t247, .int .i64 0, .slice none 0 0, .int .i64 0, .int .i64 0]) ?_ 1 _ rfl; (with_reducible repeat (first | refine blk_drewN ?_ _ | refine blk_drew ?_ | refine blk_alloc ?_ _)); refine blk_put (cs := #[.int .u32 0, .int .i64 0, .slice none 0 0, .int .i64 0, .int .i64 0]) ?_ 0 _ rfl; (with_reducible repeat (first | refine blk_drewN ?_ _ | refine blk_drew ?_ | refine blk_alloc ?_ _)); exact BK255.out⟩, ⟨by repeat (first | (with_reducible first | exact HB.out | apply below_alloc | apply pw_below_drewN | apply below_drew1 | refine below_set ?_ GE242.out | refine below_set ?_ GE255.out) | exact HB.out)⟩⟩
              case round =>
               clear H'
               try clear c1
               try clear c2
               try clear p2
               try clear q2
               try clear hx2
               try clear c3
               try clear c5
               try clear p6
               try clear c7
               try clear c7b0
               try clear c8
               try clear c9
               try clear c9b0
               try clear c13
               try clear c16
               try clear c16b0
               try clear c19
               try clear c21
               try clear c21b0
               try clear c21b1
               try clear c21b2
               try clear c22
               try clear c23
               try clear c23b0
               try clear c24
               try clear c24b0
               try clear p24
               try clear q24
               try clear hx24
               try clear c26
               try clear c28
               try clear c28b0
               try clear c31
               try clear c36
               try clear hcz11_0
               try clear hcz11_1
               try clear hcz11_2
               try clear hcz11_3
               try clear hcz11_4
               try clear hcz12_0
               try clear hcz12_1
               try clear hcz12_2
               try clear hcz12_3
               try clear hcz12_4
               try clear hcz15_0
               try clear hcz15_1
               try clear hcz15_2
               try clear hcz15_3
               try clear hcz15_4
               try clear hcz17_0
               try clear hcz17_1
               try clear hcz17_2
               try clear hcz17_3
               try clear hcz17_4
               try clear hcz18_0
               try clear hcz18_1
               try clear hcz18_2
               try clear hcz18_3
               try clear hcz18_4
               try clear hcz29_0
               try clear hcz29_1
               try clear hcz29_2
               try clear hcz29_3
               try clear hcz29_4
               try clear hcz30_0
               try clear hcz30_1
               try clear hcz30_2
               try clear hcz30_3
               try clear hcz30_4
               try clear hcz33_0
               try clear hcz33_1
               try clear hcz33_2
               try clear hcz33_3
               try clear hcz33_4
               try clear hcz37_0
               try clear hcz37_1
               try clear hcz37_2
               try clear hcz37_3
               try clear hcz37_4
               try clear hcz6_0
               try clear hcz6_1
               try clear hcz6_2
               try clear hcz6_3
               try clear hcz6_4
               try clear hfz11_0
               try clear hfz11_1
               try clear hfz11_2
               try clear hfz11_3
               try clear hfz11_4
               try clear hfz12_0
               try clear hfz12_1
               try clear hfz12_2
               try clear hfz12_3
               try clear hfz12_4
               try clear hfz15_0
               try clear hfz15_1
               try clear hfz15_2
               try clear hfz15_3
               try clear hfz15_4
               try clear hfz17_0
               try clear hfz17_1
               try clear hfz17_2
               try clear hfz17_3
               try clear hfz17_4
               try clear hfz18_0
               try clear hfz18_1
               try clear hfz18_2
               try clear hfz18_3
               try clear hfz18_4
               try clear hfz29_0
               try clear hfz29_1
               try clear hfz29_2
               try clear hfz29_3
               try clear hfz29_4
               try clear hfz30_0
               try clear hfz30_1
               try clear hfz30_2
               try clear hfz30_3
               try clear hfz30_4
               try clear hfz33_0
               try clear hfz33_1
               try clear hfz33_2
               try clear hfz33_3
               try clear hfz33_4
               try clear hfz37_0
               try clear hfz37_1
               try clear hfz37_2
               try clear hfz37_3
               try clear hfz37_4
               try clear hfz6_0
               try clear hfz6_1
               try clear hfz6_2
               try clear hfz6_3
               try clear hfz6_4
               try clear hx244_0
               try clear hx246_0
               try clear hx246_1
               try clear hx246_2
               try clear hx246_3
               try clear hx246_4
               try clear p2
               try clear p24
               try clear p244
               try clear p246
               try clear p6
               try clear q2
               try clear q24
               try clear q244
               try clear q246
               obtain ⟨x11_5, x12_5, rfl, rfl, HA, HK5, HO_0, HO_243002, HO_256002, BK242, BK255, HB⟩ := hrel
               cases gk with
               | zero => exact absurd HA.out (by simp [tiltyardref17_Put.l1])
               | succ k5 =>
                have H := HA.out
                clear HA
                simp only [tiltyardref17_Put.l1] at H
                by_cases c39 : x12_5 < (l2_2.length : Int)
                ·rw [if_pos c39] at H
                 have c39b0 : decide (x12_5 < (l2_2.length : Int)) = true := decide_eq_true c39
                 clear c39
                 by_cases c40 : x11_5 = true
                 ·subst c40
                  have H1 : (tiltyardref17_Put.l1 k5 l0 true (wrap64 (x12_5 + 1)) a2_0 a2_1 l2_2 a2_3 a2_4) = some (r1, r2) := by rw [if_pos rfl] at H; exact H
                  clear H
                  have H := H1
                  clear H1
                  have H' := Aside0.mk H
                  clear H
                  have hnb41 := NB242_255.out
                  have hnc41 := NB255_242.out
                  have hcz42_0 : wr.cell? ⟨gb242, 0, none⟩ = some (.int .u32 a2_0) := (blk_cell BK242.out 0).trans rfl
                  have hcz42_1 : wr.cell? ⟨gb242, 1, none⟩ = some (.int .i64 a2_1) := (blk_cell BK242.out 1).trans rfl
                  have hcz42_2 : wr.cell? ⟨gb242, 2, none⟩ = some (.slice A2_2 l2_2.length c2_2) := (blk_cell BK242.out 2).trans rfl
                  have hcz42_3 : wr.cell? ⟨gb242, 3, none⟩ = some (.int .i64 a2_3) := (blk_cell BK242.out 3).trans rfl
                  have hcz42_4 : wr.cell? ⟨gb242, 4, none⟩ = some (.int .i64 a2_4) := (blk_cell BK242.out 4).trans rfl
                  have hfz42_0 := blk_frozen BK242.out 0
                  have hfz42_1 := blk_frozen BK242.out 1
                  have hfz42_2 := blk_frozen BK242.out 2
                  have hfz42_3 := blk_frozen BK242.out 3
                  have hfz42_4 := blk_frozen BK242.out 4
                  try go_wp2
                  have n0_ := Aside0.mk (Kd.V_drew HO_0.out)
                  have n1_ := Aside0.mk (Kd.V_drew HO_243002.out)
                  have n2_ := Aside0.mk (Kd.V_drew HO_256002.out)
                  have n3_ := Aside0.mk (blk_drew BK242.out)
                  have n4_ := Aside0.mk (blk_drew BK255.out)
                  have n5_ := Aside0.mk (below_drew1 HB.out)
                  clear HO_0
                  clear HO_243002
                  clear HO_256002
                  clear BK242
                  clear BK255
                  clear HB
                  have HO_0 := n0_
                  have HO_243002 := n1_
                  have HO_256002 := n2_
                  have BK242 := n3_
                  have BK255 := n4_
                  have HB := n5_
                  clear n0_ n1_ n2_ n3_ n4_ n5_
                  refine start_ (n := 25) (S := fun w' => True) (ds := []) #[false, false, false, false, false, false, false, false, false, false, false, false, false, false, false, false, false, false, false, false, false, false, false, false, false] (by kernel_rfl) rfl rfl trivial (fun hHeld => ?_); refine with_tabW tiltyardref17_Put.tab18 tiltyardref17_Put.bits18 (fun HT_ HW_ => ?_)
                  generalize wr.drew = w43 at HO_0 HO_243002 HO_256002 BK242 BK255 HB hHeld ⊢
                  refine pure_ (i := 0) (N := some 86) (v := ?_) (a' := ?_) #[true, false, false, false, false, false, false, false, false, false, false, false, false, false, false, false, false, false, false, false, false, false, false, false, false] rfl rfl (any_of HT_.out (by kernel_rfl)) (fun _ _ _ h => h) (Or.inl ⟨by rfl, ?_⟩) ?_ ?_
                  rotate_left
                  ·intro w'
                   go_simp
                   with_reducible rfl
                  rotate_left
                  ·simp only [Act.put, List.setIfInBounds_toArray, List.set_cons_zero, List.set_cons_succ, i64_w, i32_w]
                   rfl
                  refine pure_ (i := 1) (N := some 87) (v := ?_) (a' := ?_) #[true, true, false, false, false, false, false, false, false, false, false, false, false, false, false, false, false, false, false, false, false, false, false, false, false] rfl rfl (any_of HT_.out (by kernel_rfl)) (fun _ _ _ h => h) (Or.inl ⟨by rfl, ?_⟩) ?_ ?_
                  rotate_left
                  ·intro w'
                   go_simp
                   with_reducible rfl
                  rotate_left
                  ·simp only [Act.put, List.setIfInBounds_toArray, List.set_cons_zero, List.set_cons_succ, i64_w, i32_w]
                   rfl
                  refine pure_ (i := 2) (N := some 88) (v := undef) (a' := ?_) #[true, true, true, false, false, false, false, false, false, false, false, false, false, false, false, false, false, false, false, false, false, false, false, false, false] rfl rfl (any_of HT_.out (by kernel_rfl)) (fun _ _ _ h => h) (Or.inr ⟨by rfl, rfl⟩) ?_ ?_
                  rotate_left
                  ·simp only [Act.put, List.setIfInBounds_toArray, List.set_cons_zero, List.set_cons_succ, i64_w, i32_w]
                   rfl
                  refine pure_ (i := 3) (N := some 89) (v := undef) (a' := ?_) #[true, true, true, true, false, false, false, false, false, false, false, false, false, false, false, false, false, false, false, false, false, false, false, false, false] rfl rfl (any_of HT_.out (by kernel_rfl)) (fun _ _ _ h => h) (Or.inr ⟨by rfl, rfl⟩) ?_ ?_
                  rotate_left
                  ·simp only [Act.put, List.setIfInBounds_toArray, List.set_cons_zero, List.set_cons_succ, i64_w, i32_w]
                   rfl
                  refine pure_ (i := 4) (N := some 90) (v := undef) (a' := ?_) #[true, true, true, true, true, false, false, false, false, false, false, false, false, false, false, false, false, false, false, false, false, false, false, false, false] rfl rfl (any_of HT_.out (by kernel_rfl)) (fun _ _ _ h => h) (Or.inr ⟨by rfl, rfl⟩) ?_ ?_
                  rotate_left
                  ·simp only [Act.put, List.setIfInBounds_toArray, List.set_cons_zero, List.set_cons_succ, i64_w, i32_w]
                   rfl
                  refine pure_ (i := 5) (N := some 91) (v := undef) (a' := ?_) #[true, true, true, true, true, true, false, false, false, false, false, false, false, false, false, false, false, false, false, false, false, false, false, false, false] rfl rfl (any_of HT_.out (by kernel_rfl)) (fun _ _ _ h => h) (Or.inr ⟨by rfl, rfl⟩) ?_ ?_
                  rotate_left
                  ·simp only [Act.put, List.setIfInBounds_toArray, List.set_cons_zero, List.set_cons_succ, i64_w, i32_w]
                   rfl
                  refine pure_ (i := 6) (N := some 92) (v := undef) (a' := ?_) #[true, true, true, true, true, true, true, false, false, false, false, false, false, false, false, false, false, false, false, false, false, false, false, false, false] rfl rfl (any_of HT_.out (by kernel_rfl)) (fun _ _ _ h => h) (Or.inr ⟨by rfl, rfl⟩) ?_ ?_
                  rotate_left
                  ·simp only [Act.put, List.setIfInBounds_toArray, List.set_cons_zero, List.set_cons_succ, i64_w, i32_w]
                   rfl
                  refine pure_ (i := 7) (N := some 93) (v := undef) (a' := ?_) #[true, true, true, true, true, true, true, true, false, false, false, false, false, false, false, false, false, false, false, false, false, false, false, false, false] rfl rfl (any_of HT_.out (by kernel_rfl)) (fun _ _ _ h => h) (Or.inr ⟨by rfl, rfl⟩) ?_ ?_
                  rotate_left
                  ·simp only [Act.put, List.setIfInBounds_toArray, List.set_cons_zero, List.set_cons_succ, i64_w, i32_w]
                   rfl
                  refine pure_ (i := 8) (N := some 94) (v := undef) (a' := ?_) #[true, true, true, true, true, true, true, true, true, false, false, false, false, false, false, false, false, false, false, false, false, false, false, false, false] rfl rfl (any_of HT_.out (by kernel_rfl)) (fun _ _ _ h => h) (Or.inr ⟨by rfl, rfl⟩) ?_ ?_
                  rotate_left
                  ·simp only [Act.put, List.setIfInBounds_toArray, List.set_cons_zero, List.set_cons_succ, i64_w, i32_w]
                   rfl
                  refine pure_ (i := 9) (N := some 95) (v := undef) (a' := ?_) #[true, true, true, true, true, true, true, true, true, true, false, false, false, false, false, false, false, false, false, false, false, false, false, false, false] rfl rfl (any_of HT_.out (by kernel_rfl)) (fun _ _ _ h => h) (Or.inr ⟨by rfl, rfl⟩) ?_ ?_
                  rotate_left
                  ·simp only [Act.put, List.setIfInBounds_toArray, List.set_cons_zero, List.set_cons_succ, i64_w, i32_w]
                   rfl
                  refine pure_ (i := 10) (N := some 96) (v := ?_) (a' := ?_) #[true, true, true, true, true, true, true, true, true, true, true, false, false, false, false, false, false, false, false, false, false, false, false, false, false] rfl rfl (any_of HT_.out (by kernel_rfl)) (fun _ _ _ h => h) (Or.inl ⟨by rfl, ?_⟩) ?_ ?_
                  rotate_left
                  ·intro w'
                   go_simp
                   with_reducible rfl
                  rotate_left
                  ·simp only [Act.put, List.setIfInBounds_toArray, List.set_cons_zero, List.set_cons_succ, i64_w, i32_w]
                   rfl
                  refine pure_ (i := 11) (N := some 97) (v := ?_) (a' := ?_) #[true, true, true, true, true, true, true, true, true, true, true, true, false, false, false, false, false, false, false, false, false, false, false, false, false] rfl rfl (any_of HT_.out (by kernel_rfl)) (fun _ _ _ h => h) (Or.inl ⟨by rfl, ?_⟩) ?_ ?_
                  rotate_left
                  ·intro w'
                   go_simp
                   with_reducible rfl
                  rotate_left
                  ·simp only [Act.put, List.setIfInBounds_toArray, List.set_cons_zero, List.set_cons_succ, i64_w, i32_w]
                   rfl
                  refine pure_ (i := 12) (N := some 98) (v := undef) (a' := ?_) #[true, true, true, true, true, true, true, true, true, true, true, true, true, false, false, false, false, false, false, false, false, false, false, false, false] rfl rfl (any_of HT_.out (by kernel_rfl)) (fun _ _ _ h => h) (Or.inr ⟨by rfl, rfl⟩) ?_ ?_
                  rotate_left
                  ·simp only [Act.put, List.setIfInBounds_toArray, List.set_cons_zero, List.set_cons_succ, i64_w, i32_w]
                   rfl
                  refine pure_ (i := 13) (N := some 99) (v := undef) (a' := ?_) #[true, true, true, true, true, true, true, true, true, true, true, true, true, true, false, false, false, false, false, false, false, false, false, false, false] rfl rfl (any_of HT_.out (by kernel_rfl)) (fun _ _ _ h => h) (Or.inr ⟨by rfl, rfl⟩) ?_ ?_
                  rotate_left
                  ·simp only [Act.put, List.setIfInBounds_toArray, List.set_cons_zero, List.set_cons_succ, i64_w, i32_w]
                   rfl
                  refine pure_ (i := 14) (N := some 100) (v := undef) (a' := ?_) #[true, true, true, true, true, true, true, true, true, true, true, true, true, true, true, false, false, false, false, false, false, false, false, false, false] rfl rfl (any_of HT_.out (by kernel_rfl)) (fun _ _ _ h => h) (Or.inr ⟨by rfl, rfl⟩) ?_ ?_
                  rotate_left
                  ·simp only [Act.put, List.setIfInBounds_toArray, List.set_cons_zero, List.set_cons_succ, i64_w, i32_w]
                   rfl
                  refine pure_ (i := 15) (N := some 101) (v := undef) (a' := ?_) #[true, true, true, true, true, true, true, true, true, true, true, true, true, true, true, true, false, false, false, false, false, false, false, false, false] rfl rfl (any_of HT_.out (by kernel_rfl)) (fun _ _ _ h => h) (Or.inr ⟨by rfl, rfl⟩) ?_ ?_
                  rotate_left
                  ·simp only [Act.put, List.setIfInBounds_toArray, List.set_cons_zero, List.set_cons_succ, i64_w, i32_w]
                   rfl
                  refine pure_ (i := 16) (N := some 102) (v := undef) (a' := ?_) #[true, true, true, true, true, true, true, true, true, true, true, true, true, true, true, true, true, false, false, false, false, false, false, false, false] rfl rfl (any_of HT_.out (by kernel_rfl)) (fun _ _ _ h => h) (Or.inr ⟨by rfl, rfl⟩) ?_ ?_
                  rotate_left
                  ·simp only [Act.put, List.setIfInBounds_toArray, List.set_cons_zero, List.set_cons_succ, i64_w, i32_w]
                   rfl
                  refine pure_ (i := 17) (N := some 103) (v := undef) (a' := ?_) #[true, true, true, true, true, true, true, true, true, true, true, true, true, true, true, true, true, true, false, false, false, false, false, false, false] rfl rfl (any_of HT_.out (by kernel_rfl)) (fun _ _ _ h => h) (Or.inr ⟨by rfl, rfl⟩) ?_ ?_
                  rotate_left
                  ·simp only [Act.put, List.setIfInBounds_toArray, List.set_cons_zero, List.set_cons_succ, i64_w, i32_w]
                   rfl
                  refine pure_ (i := 18) (N := some 104) (v := undef) (a' := ?_) #[true, true, true, true, true, true, true, true, true, true, true, true, true, true, true, true, true, true, true, false, false, false, false, false, false] rfl rfl (any_of HT_.out (by kernel_rfl)) (fun _ _ _ h => h) (Or.inr ⟨by rfl, rfl⟩) ?_ ?_
                  rotate_left
                  ·simp only [Act.put, List.setIfInBounds_toArray, List.set_cons_zero, List.set_cons_succ, i64_w, i32_w]
                   rfl
                  refine pure_ (i := 19) (N := some 105) (v := undef) (a' := ?_) #[true, true, true, true, true, true, true, true, true, true, true, true, true, true, true, true, true, true, true, true, false, false, false, false, false] rfl rfl (any_of HT_.out (by kernel_rfl)) (fun _ _ _ h => h) (Or.inr ⟨by rfl, rfl⟩) ?_ ?_
                  rotate_left
                  ·simp only [Act.put, List.setIfInBounds_toArray, List.set_cons_zero, List.set_cons_succ, i64_w, i32_w]
                   rfl
                  refine pure_ (i := 20) (N := some 106) (v := undef) (a' := ?_) #[true, true, true, true, true, true, true, true, true, true, true, true, true, true, true, true, true, true, true, true, true, false, false, false, false] rfl rfl (any_of HT_.out (by kernel_rfl)) (fun _ _ _ h => h) (Or.inr ⟨by rfl, rfl⟩) ?_ ?_
                  rotate_left
                  ·simp only [Act.put, List.setIfInBounds_toArray, List.set_cons_zero, List.set_cons_succ, i64_w, i32_w]
                   rfl
                  refine pure_ (i := 21) (N := some 107) (v := undef) (a' := ?_) #[true, true, true, true, true, true, true, true, true, true, true, true, true, true, true, true, true, true, true, true, true, true, false, false, false] rfl rfl (any_of HT_.out (by kernel_rfl)) (fun _ _ _ h => h) (Or.inr ⟨by rfl, rfl⟩) ?_ ?_
                  rotate_left
                  ·simp only [Act.put, List.setIfInBounds_toArray, List.set_cons_zero, List.set_cons_succ, i64_w, i32_w]
                   rfl
                  refine pure_ (i := 22) (N := some 108) (v := undef) (a' := ?_) #[true, true, true, true, true, true, true, true, true, true, true, true, true, true, true, true, true, true, true, true, true, true, true, false, false] rfl rfl (any_of HT_.out (by kernel_rfl)) (fun _ _ _ h => h) (Or.inr ⟨by rfl, rfl⟩) ?_ ?_
                  rotate_left
                  ·simp only [Act.put, List.setIfInBounds_toArray, List.set_cons_zero, List.set_cons_succ, i64_w, i32_w]
                   rfl
                  refine pure_ (i := 23) (N := some 109) (v := ?_) (a' := ?_) #[true, true, true, true, true, true, true, true, true, true, true, true, true, true, true, true, true, true, true, true, true, true, true, true, false] rfl rfl (any_of HT_.out (by kernel_rfl)) (fun _ _ _ h => h) (Or.inl ⟨by rfl, ?_⟩) ?_ ?_
                  rotate_left
                  ·intro w'
                   go_simp
                   with_reducible rfl
                  rotate_left
                  ·simp only [Act.put, List.setIfInBounds_toArray, List.set_cons_zero, List.set_cons_succ, i64_w, i32_w]
                   rfl
                  refine pure_ (i := 24) (N := some 11) (v := ?_) (a' := ?_) #[true, true, true, true, true, true, true, true, true, true, true, true, true, true, true, true, true, true, true, true, true, true, true, true, true] rfl rfl (any_of HT_.out (by kernel_rfl)) (fun _ _ _ h => h) (Or.inl ⟨by rfl, ?_⟩) ?_ ?_
                  rotate_left
                  ·intro w'
                   go_simp
                   with_reducible rfl
                  rotate_left
                  ·simp only [Act.put, List.setIfInBounds_toArray, List.set_cons_zero, List.set_cons_succ, i64_w, i32_w]
                   rfl
                  refine done_ (done_of HT_.out (by kernel_rfl)) ?_
                  try go_wp2
                  go_roundg k5
                  case measure => have := HK1.out; have := HJ13.out; have := HJ19.out; have := HJ26.out; have := HK5.out; omega
                  case rel => exact ⟨(true), (wrap64 (x12_5 + 1)), (by first | rfl | (simp; done) | (simp [*]; done)), (by first | rfl | (simp; done) | (simp [*]; done)), H', ⟨by have := HK1.out; have := HJ13.out; have := HJ19.out; have := HJ26.out; have := HK5.out; omega⟩, ⟨by (with_reducible repeat (first | apply Kd.V_alloc | apply Kd.V_drewN | apply Kd.V_drew)); exact HO_0.out⟩, ⟨by (with_reducible repeat (first | apply Kd.V_alloc | apply Kd.V_drewN | apply Kd.V_drew)); exact HO_243002.out⟩, ⟨by (with_reducible repeat (first | apply Kd.V_alloc | apply Kd.V_drewN | apply Kd.V_drew)); exact HO_256002.out⟩, ⟨by (with_reducible repeat (first | refine blk_drewN ?_ _ | refine blk_drew ?_ | refine blk_alloc ?_ _)); exact BK242.out⟩, ⟨by (with_reducible repeat (first | refine blk_drewN ?_ _ | refine blk_drew ?_ | refine blk_alloc ?_ _)); exact BK255.out⟩, ⟨by repeat (first | (with_reducible first | exact HB.out | apply below_alloc | apply pw_below_drewN | apply below_drew1 | refine below_set ?_ GE242.out | refine below_set ?_ GE255.out) | exact HB.out)⟩⟩
                 ·replace c40 := Bool.eq_false_iff.mpr c40
                  subst c40
                  have H1 : (if 0 ≤ x12_5 then ((tiltyardref17_Of.f k5 l0 (rd l2_2 x12_5)).bind fun t257 => (if t257 = 0 then (if 0 ≤ (wrap64 (x12_5 + 1)) then (if (wrap64 (x12_5 + 1)) ≤ (l2_2.length : Int) then ((tiltyardref13_Has.f k5 (l2_2.drop ((wrap64 (x12_5 + 1)) : Int).toNat) (rd l2_2 x12_5)).bind fun t264 => (tiltyardref17_Put.l1 k5 l0 t264 (wrap64 (x12_5 + 1)) a2_0 a2_1 l2_2 a2_3 a2_4)) else (none)) else (none)) else (tiltyardref17_Put.l1 k5 l0 true (wrap64 (x12_5 + 1)) a2_0 a2_1 l2_2 a2_3 a2_4))) else (none)) = some (r1, r2) := by rw [if_neg (show ¬ (false = true) by decide)] at H; exact H
                  clear H
                  have H := H1
                  clear H1
                  by_cases c44 : 0 ≤ x12_5
                  ·rw [if_pos c44] at H
                   have c44b0 : decide (0 ≤ x12_5) = true := decide_eq_true c44
                   clear c44
                   replace H := Option.bind_eq_some_iff.mp H
                   obtain ⟨t257, A450, H⟩ := H
                   replace H : (if t257 = 0 then (if 0 ≤ (wrap64 (x12_5 + 1)) then (if (wrap64 (x12_5 + 1)) ≤ (l2_2.length : Int) then ((tiltyardref13_Has.f k5 (l2_2.drop ((wrap64 (x12_5 + 1)) : Int).toNat) (rd l2_2 x12_5)).bind fun t264 => (tiltyardref17_Put.l1 k5 l0 t264 (wrap64 (x12_5 + 1)) a2_0 a2_1 l2_2 a2_3 a2_4)) else (none)) else (none)) else (tiltyardref17_Put.l1 k5 l0 true (wrap64 (x12_5 + 1)) a2_0 a2_1 l2_2 a2_3 a2_4)) = some (r1, r2) := H
                   have A45 := Aside0.mk A450
                   clear A450
                   by_cases c46 : t257 = 0
                   ·rw [if_pos c46] at H
                    have c46b0 : (t257 == 0) = true := beq_iff_eq.mpr c46
                    have c46b1 : (t257 != 0) = false := bne_eq_false_iff_eq.mpr c46
                    clear c46
                    obtain ⟨ji47, hji47⟩ : ∃ j_ : Int, (wrap64 (x12_5 + 1)) = j_ := ⟨_, rfl⟩
                    replace H : (if 0 ≤ (ji47) then (if (ji47) ≤ (l2_2.length : Int) then ((tiltyardref13_Has.f k5 (l2_2.drop ((ji47) : Int).toNat) (rd l2_2 x12_5)).bind fun t264 => (tiltyardref17_Put.l1 k5 l0 t264 ji47 a2_0 a2_1 l2_2 a2_3 a2_4)) else (none)) else (none)) = some (r1, r2) := by first | (rw [hji47] at H; exact H) | (simp only [hji47] at H ⊢; exact H)
                    (try rw [hji47] at A45)
                    have hji47w : (IntKind.i64.wrap (x12_5 + 1)) = ji47 := (i64_w _).trans hji47
                    by_cases c48 : 0 ≤ (ji47)
                    ·rw [if_pos c48] at H
                     have c48b0 := eq_true c48
                     have c48b1 : decide (0 ≤ (ji47)) = true := decide_eq_true c48
                     clear c48
                     by_cases c49 : (ji47) ≤ (l2_2.length : Int)
                     ·rw [if_pos c49] at H
                      have c49b0 := eq_true c49
                      have c49b1 : decide ((ji47) ≤ (l2_2.length : Int)) = true := decide_eq_true c49
                      clear c49
                      obtain ⟨y258, hy258⟩ : ∃ y_ : List Int, y_ = (l2_2.drop ((ji47) : Int).toNat) := ⟨_, rfl⟩
                      replace H : ((tiltyardref13_Has.f k5 y258 (rd l2_2 x12_5)).bind fun t264 => (tiltyardref17_Put.l1 k5 l0 t264 ji47 a2_0 a2_1 l2_2 a2_3 a2_4)) = some (r1, r2) := by first | (rw [hy258]; with_reducible exact H) | (have H2_ := (Option.bind_some _ _).symm.trans H; rw [hy258]; with_reducible exact H2_) | (have H2_ := (Option.bind_some _ _).symm.trans H; with_reducible exact H2_) | with_reducible exact H | (rw [hy258]; exact H) | exact H
                      have Ny258 := Aside0.mk hy258
                      clear hy258
                      replace H := Option.bind_eq_some_iff.mp H
                      obtain ⟨t264, A500, H⟩ := H
                      replace H : (tiltyardref17_Put.l1 k5 l0 t264 ji47 a2_0 a2_1 l2_2 a2_3 a2_4) = some (r1, r2) := H
                      have A50 := Aside0.mk A500
                      clear A500
                      have H' := Aside0.mk H
                      clear H
                      have hnb51 := NB242_255.out
                      have hnc51 := NB255_242.out
                      have hcz52_0 : wr.cell? ⟨gb242, 0, none⟩ = some (.int .u32 a2_0) := (blk_cell BK242.out 0).trans rfl
                      have hcz52_1 : wr.cell? ⟨gb242, 1, none⟩ = some (.int .i64 a2_1) := (blk_cell BK242.out 1).trans rfl
                      have hcz52_2 : wr.cell? ⟨gb242, 2, none⟩ = some (.slice A2_2 l2_2.length c2_2) := (blk_cell BK242.out 2).trans rfl
                      have hcz52_3 : wr.cell? ⟨gb242, 3, none⟩ = some (.int .i64 a2_3) := (blk_cell BK242.out 3).trans rfl
                      have hcz52_4 : wr.cell? ⟨gb242, 4, none⟩ = some (.int .i64 a2_4) := (blk_cell BK242.out 4).trans rfl
                      have hfz52_0 := blk_frozen BK242.out 0
                      have hfz52_1 := blk_frozen BK242.out 1
                      have hfz52_2 := blk_frozen BK242.out 2
                      have hfz52_3 := blk_frozen BK242.out 3
                      have hfz52_4 := blk_frozen BK242.out 4
                      try go_wp2
                      have n0_ := Aside0.mk (Kd.V_drew HO_0.out)
                      have n1_ := Aside0.mk (Kd.V_drew HO_243002.out)
                      have n2_ := Aside0.mk (Kd.V_drew HO_256002.out)
                      have n3_ := Aside0.mk (blk_drew BK242.out)
                      have n4_ := Aside0.mk (blk_drew BK255.out)
                      have n5_ := Aside0.mk (below_drew1 HB.out)
                      clear HO_0
                      clear HO_243002
                      clear HO_256002
                      clear BK242
                      clear BK255
                      clear HB
                      have HO_0 := n0_
                      have HO_243002 := n1_
                      have HO_256002 := n2_
                      have BK242 := n3_
                      have BK255 := n4_
                      have HB := n5_
                      clear n0_ n1_ n2_ n3_ n4_ n5_
                      have p256 : 0 ≤ (x12_5 : Int) := of_decide_eq_true (by first | (with_reducible assumption) | assumption)
                      have q256 : x12_5 < (l2_2.length : Int) := of_decide_eq_true (by first | (with_reducible assumption) | assumption)
                      obtain ⟨ad256, e256, hx256_0⟩ := Kd.at_int (Kd.V_reads' HO_243002.out).2.2 x12_5 p256 q256
                      cases e256
                      replace p256 := eq_true p256
                      replace q256 := eq_true q256
                      have p263 : 0 ≤ (x12_5 : Int) := of_decide_eq_true (by first | (with_reducible assumption) | assumption)
                      have q263 : x12_5 < (l2_2.length : Int) := of_decide_eq_true (by first | (with_reducible assumption) | assumption)
                      obtain ⟨ad263, e263, hx263_0⟩ := Kd.at_int (Kd.V_reads' HO_243002.out).2.2 x12_5 p263 q263
                      obtain rfl : ad256 = ad263 := (by injection e263)
                      replace p263 := eq_true p263
                      replace q263 := eq_true q263
                      refine start_ (n := 25) (S := fun w' => w'.cell? ⟨gb242, 0, none⟩ = some (.int .u32 a2_0) ∧ w'.cell? ⟨gb242, 1, none⟩ = some (.int .i64 a2_1) ∧ w'.cell? ⟨gb242, 2, none⟩ = some (.slice (some ad256) l2_2.length c2_2) ∧ w'.cell? ⟨gb242, 3, none⟩ = some (.int .i64 a2_3) ∧ w'.cell? ⟨gb242, 4, none⟩ = some (.int .i64 a2_4) ∧ w'.cell? (ad256.add (x12_5).toNat) = some (.int .u32 (rd l2_2 x12_5)) ∧ w'.cell? (ad256.add (x12_5).toNat) = some (.int .u32 (rd l2_2 x12_5))) (ds := []) #[false, false, false, false, false, false, false, false, false, false, false, false, false, false, false, false, false, false, false, false, false, false, false, false, false] (by kernel_rfl) rfl rfl ⟨(blk_cell BK242.out 0).trans rfl, (blk_cell BK242.out 1).trans rfl, (blk_cell BK242.out 2).trans rfl, (blk_cell BK242.out 3).trans rfl, (blk_cell BK242.out 4).trans rfl, hx256_0, hx263_0⟩ (fun hHeld => ?_); refine with_tabW tiltyardref17_Put.tab18 tiltyardref17_Put.bits18 (fun HT_ HW_ => ?_)
                      generalize wr.drew = w53 at HO_0 HO_243002 HO_256002 BK242 BK255 HB hx256_0 hx263_0 hHeld ⊢
                      refine pure_ (i := 0) (N := some 86) (v := ?_) (a' := ?_) #[true, false, false, false, false, false, false, false, false, false, false, false, false, false, false, false, false, false, false, false, false, false, false, false, false] rfl rfl (any_of HT_.out (by kernel_rfl)) (fun _ _ _ h => h) (Or.inl ⟨by rfl, ?_⟩) ?_ ?_
                      rotate_left
                      ·intro w'
                       go_simp
                       with_reducible rfl
                      rotate_left
                      ·simp only [Act.put, List.setIfInBounds_toArray, List.set_cons_zero, List.set_cons_succ, i64_w, i32_w]
                       rfl
                      refine pure_ (i := 1) (N := some 87) (v := ?_) (a' := ?_) #[true, true, false, false, false, false, false, false, false, false, false, false, false, false, false, false, false, false, false, false, false, false, false, false, false] rfl rfl (any_of HT_.out (by kernel_rfl)) (fun _ _ _ h => h) (Or.inl ⟨by rfl, ?_⟩) ?_ ?_
                      rotate_left
                      ·intro w'
                       go_simp
                       with_reducible rfl
                      rotate_left
                      ·simp only [Act.put, List.setIfInBounds_toArray, List.set_cons_zero, List.set_cons_succ, i64_w, i32_w]
                       rfl
                      refine pure_ (i := 2) (N := some 88) (v := ?_) (a' := ?_) #[true, true, true, false, false, false, false, false, false, false, false, false, false, false, false, false, false, false, false, false, false, false, false, false, false] rfl rfl (any_of HT_.out (by kernel_rfl)) (fun _ _ _ h => h) (Or.inl ⟨by rfl, ?_⟩) ?_ ?_
                      rotate_left
                      ·intro w'
                       go_simp
                       with_reducible rfl
                      rotate_left
                      ·simp only [Act.put, List.setIfInBounds_toArray, List.set_cons_zero, List.set_cons_succ, i64_w, i32_w]
                       rfl
                      refine pure_ (i := 3) (N := some 89) (v := ?_) (a' := ?_) #[true, true, true, true, false, false, false, false, false, false, false, false, false, false, false, false, false, false, false, false, false, false, false, false, false] rfl rfl (any_of HT_.out (by kernel_rfl)) (fun _ _ _ h => h) (Or.inl ⟨by rfl, ?_⟩) ?_ ?_
                      rotate_left
                      ·intro w'
                       go_simp
                       with_reducible rfl
                      rotate_left
                      ·simp only [Act.put, List.setIfInBounds_toArray, List.set_cons_zero, List.set_cons_succ, i64_w, i32_w]
                       rfl
                      refine pure_ (i := 5) (N := some 91) (v := ?_) (a' := ?_) #[true, true, true, true, false, true, false, false, false, false, false, false, false, false, false, false, false, false, false, false, false, false, false, false, false] rfl rfl (any_of HT_.out (by kernel_rfl)) (fun _ _ _ h => h) (Or.inl ⟨by rfl, ?_⟩) ?_ ?_
                      rotate_left
                      ·intro w'
                       go_simp
                       with_reducible rfl
                      rotate_left
                      ·simp only [Act.put, List.setIfInBounds_toArray, List.set_cons_zero, List.set_cons_succ, i64_w, i32_w]
                       rfl
                      refine take_ (i := 4) (N := some 90) (v := ?_) (a' := ?_) #[true, true, true, true, true, true, false, false, false, false, false, false, false, false, false, false, false, false, false, false, false, false, false, false, false] rfl rfl (take_ofW HT_.out HW_.out (by kernel_rfl)) (fun _ _ _ h => h) (Or.inl ⟨by rfl, ?_⟩) hHeld ?_ ?_
                      rotate_left
                      ·rintro w' ⟨s0, s1, s2, s3, s4, s5, s6⟩
                       go_simp
                       with_reducible rfl
                      rotate_left
                      ·simp only [Act.put, List.setIfInBounds_toArray, List.set_cons_zero, List.set_cons_succ, i64_w, i32_w]
                       rfl
                      refine pure_ (i := 6) (N := some 92) (v := ?_) (a' := ?_) #[true, true, true, true, true, true, true, false, false, false, false, false, false, false, false, false, false, false, false, false, false, false, false, false, false] rfl rfl (any_of HT_.out (by kernel_rfl)) (fun _ _ _ h => h) (Or.inl ⟨by rfl, ?_⟩) ?_ ?_
                      rotate_left
                      ·intro w'
                       go_simp
                       with_reducible rfl
                      rotate_left
                      ·simp only [Act.put, List.setIfInBounds_toArray, List.set_cons_zero, List.set_cons_succ, i64_w, i32_w]
                       rfl
                      refine take_ (i := 7) (N := some 93) (v := ?_) (a' := ?_) #[true, true, true, true, true, true, true, true, false, false, false, false, false, false, false, false, false, false, false, false, false, false, false, false, false] rfl rfl (take_ofW HT_.out HW_.out (by kernel_rfl)) (fun _ _ _ h => h) (Or.inl ⟨by rfl, ?_⟩) hHeld ?_ ?_
                      rotate_left
                      ·rintro w' ⟨s0, s1, s2, s3, s4, s5, s6⟩
                       go_simp
                       with_reducible rfl
                      rotate_left
                      ·simp only [Act.put, List.setIfInBounds_toArray, List.set_cons_zero, List.set_cons_succ, i64_w, i32_w]
                       rfl
                      refine one_ (i := 8) (N := some 94) #[true, true, true, true, true, true, true, true, true, false, false, false, false, false, false, false, false, false, false, false, false, false, false, false, false] rfl rfl (one_of HT_.out (by kernel_rfl)) (by decide) (fun K hK => ?_)
                      refine goes_ Try.func25 (by kernel_rfl) rfl #[.slice A0 l0.length c0, .int .u32 (rd l2_2 x12_5)] (by rfl) rfl rfl (by (try simp only [List.map_toArray, List.map_cons, List.map_nil]); first | done | rfl | (simp only [List.length_drop, List.length_take]; rfl)) ?_
                      with_reducible refine (tiltyardref17_Of.calls k5 _ _ l0 (rd l2_2 x12_5) t257 _ ?side1 ?side2 A45.out).mono ?_
                      (case side1 => repeat (first | exact (Kd.V_reads' HO_0.out).2.2 | (with_reducible refine Kd.C_alloc ?_ _) | (with_reducible refine Kd.C_drewN ?_ _) | (with_reducible refine Kd.C_drew ?_)))
                      (case side2 => exact (Kd.V_reads' HO_0.out).2.1)
                      rintro e w' ⟨rfl, ⟨nd, rfl⟩⟩
                      refine ⟨_, rfl, ?_⟩
                      have q54 : ((ji47) : Int) ≤ ((l2_2.length : Int) : Int) := of_decide_eq_true (by first | (with_reducible assumption) | assumption)
                      obtain ⟨i054, hi054, _, hsz54, _⟩ := info_parts info33
                      have hroom54 : l2_2.length ≤ c2_2 := (Kd.V_reads' HO_243002.out).2.1
                      have hC54 : Kd.F (Kd.int .u32) _ _ (some ad256) l2_2.length l2_2 := (Kd.V_at (base := w.heap.size) HO_243002.out).2.2
                      have q054 : (0 : Int) ≤ ((ji47) : Int) := of_decide_eq_true (by first | (with_reducible assumption) | assumption)
                      have hcut54 := cut_from (P := Try.prog) 34 33 .i64 Try.underlying34 hi054 1 hsz54 (some ad256) l2_2.length c2_2 (ji47) q054 q54
                      have hr54 := Kd.F_cut (m := ((ji47) : Int).toNat) (c := c2_2) hC54 (by omega) hroom54
                      obtain ⟨A54, hA54⟩ : ∃ A1, A1 = (if c2_2 = ((ji47) : Int).toNat then (some ad256) else ((some ad256) : Option Addr).map (·.add (((ji47) : Int).toNat * 1))) := ⟨_, rfl⟩
                      obtain ⟨c54, hc54⟩ : ∃ c1, c1 = c2_2 - ((ji47) : Int).toNat := ⟨_, rfl⟩
                      have hy54 : y258.length = l2_2.length - ((ji47) : Int).toNat := (by rw [Ny258.out, List.length_drop] <;> omega)
                      rw [show (l2_2).drop ((ji47) : Int).toNat = y258 from Ny258.out.symm] at hr54
                      replace hr54 : Kd.F (Kd.int .u32) _ _ A54 y258.length y258 := (by rw [hA54]; exact hr54)
                      rw [← hy54, ← hA54, ← hc54] at hcut54
                      have HO262 := Aside0.mk (show Kd.V (Kd.int .u32) 33 _ w.heap.size _ (.slice A54 y258.length c54) y258 from Kd.V_mk (by rw [hy54, hc54]; exact Nat.sub_le_sub_right hroom54 _) hr54)
                      have HC262 := Aside0.mk (show y258.length ≤ c54 from by rw [hy54, hc54]; exact Nat.sub_le_sub_right hroom54 _)
                      clear hr54 hC54 hroom54 hi054 hsz54 hc54
                      have KY54 := Aside0.mk hy54
                      have KA54 := Aside0.mk hA54
                      clear hy54 hA54
                      replace q54 := eq_true q54
                      refine hK.out _ _ ⟨(blk_cell BK242.out 0).trans rfl, (blk_cell BK242.out 1).trans rfl, (blk_cell BK242.out 2).trans rfl, (blk_cell BK242.out 3).trans rfl, (blk_cell BK242.out 4).trans rfl, hHeld.2.2.2.2.2.1, hHeld.2.2.2.2.2.2⟩ (fun hHeld => ?_)
                      clear hK K
                      refine norm_ (a' := ?_) ?_ ?_
                      rotate_left
                      ·show Act.put _ (some 94) _ = _
                       simp only [Act.put, List.setIfInBounds_toArray, List.set_cons_zero, List.set_cons_succ, i64_w, i32_w]
                       rfl
                      refine pure_ (i := 9) (N := some 95) (v := ?_) (a' := ?_) #[true, true, true, true, true, true, true, true, true, true, false, false, false, false, false, false, false, false, false, false, false, false, false, false, false] rfl rfl (any_of HT_.out (by kernel_rfl)) (fun _ _ _ h => h) (Or.inl ⟨by rfl, ?_⟩) ?_ ?_
                      rotate_left
                      ·intro w'
                       go_simp
                       with_reducible rfl
                      rotate_left
                      ·simp only [Act.put, List.setIfInBounds_toArray, List.set_cons_zero, List.set_cons_succ, i64_w, i32_w]
                       rfl
                      refine pure_ (i := 10) (N := some 96) (v := ?_) (a' := ?_) #[true, true, true, true, true, true, true, true, true, true, true, false, false, false, false, false, false, false, false, false, false, false, false, false, false] rfl rfl (any_of HT_.out (by kernel_rfl)) (fun _ _ _ h => h) (Or.inl ⟨by rfl, ?_⟩) ?_ ?_
                      rotate_left
                      ·intro w'
                       go_simp
                       with_reducible rfl
                      rotate_left
                      ·simp only [Act.put, List.setIfInBounds_toArray, List.set_cons_zero, List.set_cons_succ, i64_w, i32_w]
                       rfl
                      refine pure_ (i := 11) (N := some 97) (v := ?_) (a' := ?_) #[true, true, true, true, true, true, true, true, true, true, true, true, false, false, false, false, false, false, false, false, false, false, false, false, false] rfl rfl (any_of HT_.out (by kernel_rfl)) (fun _ _ _ h => h) (Or.inl ⟨by rfl, ?_⟩) ?_ ?_
                      rotate_left
                      ·intro w'
                       go_simp
                       with_reducible rfl
                      rotate_left
                      ·simp only [Act.put, List.setIfInBounds_toArray, List.set_cons_zero, List.set_cons_succ, i64_w, i32_w]
                       rfl
                      refine pure_ (i := 12) (N := some 98) (v := ?_) (a' := ?_) #[true, true, true, true, true, true, true, true, true, true, true, true, true, false, false, false, false, false, false, false, false, false, false, false, false] rfl rfl (any_of HT_.out (by kernel_rfl)) (fun _ _ _ h => h) (Or.inl ⟨by rfl, ?_⟩) ?_ ?_
                      rotate_left
                      ·intro w'
                       go_simp
                       with_reducible rfl
                      rotate_left
                      ·simp only [Act.put, List.setIfInBounds_toArray, List.set_cons_zero, List.set_cons_succ, i64_w, i32_w]
                       rfl
                      refine pure_ (i := 14) (N := some 100) (v := ?_) (a' := ?_) #[true, true, true, true, true, true, true, true, true, true, true, true, true, false, true, false, false, false, false, false, false, false, false, false, false] rfl rfl (any_of HT_.out (by kernel_rfl)) (fun _ _ _ h => h) (Or.inl ⟨by rfl, ?_⟩) ?_ ?_
                      rotate_left
                      ·intro w'
                       go_simp
                       with_reducible rfl
                      rotate_left
                      ·simp only [Act.put, List.setIfInBounds_toArray, List.set_cons_zero, List.set_cons_succ, i64_w, i32_w]
                       rfl
                      refine pure_ (i := 15) (N := some 101) (v := ?_) (a' := ?_) #[true, true, true, true, true, true, true, true, true, true, true, true, true, false, true, true, false, false, false, false, false, false, false, false, false] rfl rfl (any_of HT_.out (by kernel_rfl)) (fun _ _ _ h => h) (Or.inl ⟨by rfl, ?_⟩) ?_ ?_
                      rotate_left
                      ·intro w'
                       go_simp
                       with_reducible rfl
                      rotate_left
                      ·simp only [Act.put, List.setIfInBounds_toArray, List.set_cons_zero, List.set_cons_succ, i64_w, i32_w]
                       rfl
                      refine pure_ (i := 17) (N := some 103) (v := ?_) (a' := ?_) #[true, true, true, true, true, true, true, true, true, true, true, true, true, false, true, true, false, true, false, false, false, false, false, false, false] rfl rfl (any_of HT_.out (by kernel_rfl)) (fun _ _ _ h => h) (Or.inl ⟨by rfl, ?_⟩) ?_ ?_
                      rotate_left
                      ·intro w'
                       go_simp
                       with_reducible rfl
                      rotate_left
                      ·simp only [Act.put, List.setIfInBounds_toArray, List.set_cons_zero, List.set_cons_succ, i64_w, i32_w]
                       rfl
                      refine pure_ (i := 19) (N := some 105) (v := ?_) (a' := ?_) #[true, true, true, true, true, true, true, true, true, true, true, true, true, false, true, true, false, true, false, true, false, false, false, false, false] rfl rfl (any_of HT_.out (by kernel_rfl)) (fun _ _ _ h => h) (Or.inl ⟨by rfl, ?_⟩) ?_ ?_
                      rotate_left
                      ·intro w'
                       go_simp
                       with_reducible rfl
                      rotate_left
                      ·simp only [Act.put, List.setIfInBounds_toArray, List.set_cons_zero, List.set_cons_succ, i64_w, i32_w]
                       rfl
                      refine take_ (i := 13) (N := some 99) (v := ?_) (a' := ?_) #[true, true, true, true, true, true, true, true, true, true, true, true, true, true, true, true, false, true, false, true, false, false, false, false, false] rfl rfl (take_ofW HT_.out HW_.out (by kernel_rfl)) (fun _ _ _ h => h) (Or.inl ⟨by rfl, ?_⟩) hHeld ?_ ?_
                      rotate_left
                      ·rintro w' ⟨s0, s1, s2, s3, s4, s5, s6⟩
                       go_simp
                       with_reducible rfl
                      rotate_left
                      ·simp only [Act.put, List.setIfInBounds_toArray, List.set_cons_zero, List.set_cons_succ, i64_w, i32_w]
                       rfl
                      refine pure_ (i := 16) (N := some 102) (v := ?_) (a' := ?_) #[true, true, true, true, true, true, true, true, true, true, true, true, true, true, true, true, true, true, false, true, false, false, false, false, false] rfl rfl (any_of HT_.out (by kernel_rfl)) (fun _ _ _ h => h) (Or.inl ⟨by rfl, ?_⟩) ?_ ?_
                      rotate_left
                      ·intro w'
                       go_simp
                       with_reducible rfl
                      rotate_left
                      ·simp only [Act.put, List.setIfInBounds_toArray, List.set_cons_zero, List.set_cons_succ, i64_w, i32_w]
                       rfl
                      refine take_ (i := 18) (N := some 104) (v := ?_) (a' := ?_) #[true, true, true, true, true, true, true, true, true, true, true, true, true, true, true, true, true, true, true, true, false, false, false, false, false] rfl rfl (take_ofW HT_.out HW_.out (by kernel_rfl)) (fun _ _ _ h => h) (Or.inl ⟨by rfl, ?_⟩) hHeld ?_ ?_
                      rotate_left
                      ·rintro w' ⟨s0, s1, s2, s3, s4, s5, s6⟩
                       go_simp
                       with_reducible rfl
                      rotate_left
                      ·simp only [Act.put, List.setIfInBounds_toArray, List.set_cons_zero, List.set_cons_succ, i64_w, i32_w]
                       rfl
                      refine pure_ (i := 20) (N := some 106) (v := ?_) (a' := ?_) #[true, true, true, true, true, true, true, true, true, true, true, true, true, true, true, true, true, true, true, true, true, false, false, false, false] rfl rfl (any_of HT_.out (by kernel_rfl)) (fun _ _ _ h => h) (Or.inl ⟨by rfl, ?_⟩) ?_ ?_
                      rotate_left
                      ·intro w'
                       go_simp
                       with_reducible rfl
                      rotate_left
                      ·simp only [Act.put, List.setIfInBounds_toArray, List.set_cons_zero, List.set_cons_succ, i64_w, i32_w]
                       rfl
                      refine take_ (i := 21) (N := some 107) (v := ?_) (a' := ?_) #[true, true, true, true, true, true, true, true, true, true, true, true, true, true, true, true, true, true, true, true, true, true, false, false, false] rfl rfl (take_ofW HT_.out HW_.out (by kernel_rfl)) (fun _ _ _ h => h) (Or.inl ⟨by rfl, ?_⟩) hHeld ?_ ?_
                      rotate_left
                      ·rintro w' ⟨s0, s1, s2, s3, s4, s5, s6⟩
                       go_simp
                       with_reducible rfl
                      rotate_left
                      ·simp only [Act.put, List.setIfInBounds_toArray, List.set_cons_zero, List.set_cons_succ, i64_w, i32_w]
                       rfl
                      refine one_ (i := 22) (N := some 108) #[true, true, true, true, true, true, true, true, true, true, true, true, true, true, true, true, true, true, true, true, true, true, true, false, false] rfl rfl (one_of HT_.out (by kernel_rfl)) (by decide) (fun K hK => ?_)
                      refine goes_ Try.func66 (by kernel_rfl) rfl #[.slice A54 y258.length c54, .int .u32 (rd l2_2 x12_5)] (by rfl) rfl rfl (by (try simp only [List.map_toArray, List.map_cons, List.map_nil]); first | done | rfl | (simp only [List.length_drop, List.length_take]; rfl)) ?_
                      with_reducible refine (tiltyardref13_Has.calls k5 _ _ y258 (rd l2_2 x12_5) t264 _ ?side1 ?side2 A50.out).mono ?_
                      (case side1 => repeat (first | exact (Kd.V_reads' HO262.out).2.2 | (with_reducible refine Kd.C_alloc ?_ _) | (with_reducible refine Kd.C_drewN ?_ _) | (with_reducible refine Kd.C_drew ?_)))
                      (case side2 => exact (Kd.V_reads' HO262.out).2.1)
                      rintro e w' ⟨rfl, ⟨nd, rfl⟩⟩
                      refine ⟨_, rfl, ?_⟩
                      refine hK.out _ _ ⟨(blk_cell BK242.out 0).trans rfl, (blk_cell BK242.out 1).trans rfl, (blk_cell BK242.out 2).trans rfl, (blk_cell BK242.out 3).trans rfl, (blk_cell BK242.out 4).trans rfl, hHeld.2.2.2.2.2.1, hHeld.2.2.2.2.2.2⟩ (fun hHeld => ?_)
                      clear hK K
                      refine norm_ (a' := ?_) ?_ ?_
                      rotate_left
                      ·show Act.put _ (some 108) _ = _
                       simp only [Act.put, List.setIfInBounds_toArray, List.set_cons_zero, List.set_cons_succ, i64_w, i32_w]
                       rfl
                      refine pure_ (i := 23) (N := some 109) (v := ?_) (a' := ?_) #[true, true, true, true, true, true, true, true, true, true, true, true, true, true, true, true, true, true, true, true, true, true, true, true, false] rfl rfl (any_of HT_.out (by kernel_rfl)) (fun _ _ _ h => h) (Or.inl ⟨by rfl, ?_⟩) ?_ ?_
                      rotate_left
                      ·intro w'
                       go_simp
                       with_reducible rfl
                      rotate_left
                      ·simp only [Act.put, List.setIfInBounds_toArray, List.set_cons_zero, List.set_cons_succ, i64_w, i32_w]
                       rfl
                      refine pure_ (i := 24) (N := some 11) (v := ?_) (a' := ?_) #[true, true, true, true, true, true, true, true, true, true, true, true, true, true, true, true, true, true, true, true, true, true, true, true, true] rfl rfl (any_of HT_.out (by kernel_rfl)) (fun _ _ _ h => h) (Or.inl ⟨by rfl, ?_⟩) ?_ ?_
                      rotate_left
                      ·intro w'
                       go_simp
                       with_reducible rfl
                      rotate_left
                      ·simp only [Act.put, List.setIfInBounds_toArray, List.set_cons_zero, List.set_cons_succ, i64_w, i32_w]
                       rfl
                      refine done_ (done_of HT_.out (by kernel_rfl)) ?_
                      try go_wp2
                      go_roundg k5
                      case measure => have := HK1.out; have := HJ13.out; have := HJ19.out; have := HJ26.out; have := HK5.out; omega
                      case rel => exact ⟨(t264), (ji47), (by first | rfl | (simp; done) | (simp [*]; done)), (by first | rfl | (simp; done) | (simp only [← hji47] <;> (first | rfl | simp)) | (simp [*]; done)), H', ⟨by have := HK1.out; have := HJ13.out; have := HJ19.out; have := HJ26.out; have := HK5.out; omega⟩, ⟨by (with_reducible repeat (first | apply Kd.V_alloc | apply Kd.V_drewN | apply Kd.V_drew)); exact HO_0.out⟩, ⟨by (with_reducible repeat (first | apply Kd.V_alloc | apply Kd.V_drewN | apply Kd.V_drew)); exact HO_243002.out⟩, ⟨by (with_reducible repeat (first | apply Kd.V_alloc | apply Kd.V_drewN | apply Kd.V_drew)); exact HO_256002.out⟩, ⟨by (with_reducible repeat (first | refine blk_drewN ?_ _ | refine blk_drew ?_ | refine blk_alloc ?_ _)); exact BK242.out⟩, ⟨by (with_reducible repeat (first | refine blk_drewN ?_ _ | refine blk_drew ?_ | refine blk_alloc ?_ _)); exact BK255.out⟩, ⟨by repeat (first | (with_reducible first | exact HB.out | apply below_alloc | apply pw_below_drewN | apply below_drew1 | refine below_set ?_ GE242.out | refine below_set ?_ GE255.out) | exact HB.out)⟩⟩
                     ·rw [if_neg c49] at H
                      exact absurd H (by simp)
                    ·rw [if_neg c48] at H
                     exact absurd H (by simp)
                   ·rw [if_neg c46] at H
                    have c46b0 : (t257 == 0) = false := beq_eq_false_iff_ne.mpr c46
                    have c46b1 : (t257 != 0) = true := bne_iff_ne.mpr c46
                    have H' := Aside0.mk H
                    clear H
                    have hnb55 := NB242_255.out
                    have hnc55 := NB255_242.out
                    have hcz56_0 : wr.cell? ⟨gb242, 0, none⟩ = some (.int .u32 a2_0) := (blk_cell BK242.out 0).trans rfl
                    have hcz56_1 : wr.cell? ⟨gb242, 1, none⟩ = some (.int .i64 a2_1) := (blk_cell BK242.out 1).trans rfl
                    have hcz56_2 : wr.cell? ⟨gb242, 2, none⟩ = some (.slice A2_2 l2_2.length c2_2) := (blk_cell BK242.out 2).trans rfl
                    have hcz56_3 : wr.cell? ⟨gb242, 3, none⟩ = some (.int .i64 a2_3) := (blk_cell BK242.out 3).trans rfl
                    have hcz56_4 : wr.cell? ⟨gb242, 4, none⟩ = some (.int .i64 a2_4) := (blk_cell BK242.out 4).trans rfl
                    have hfz56_0 := blk_frozen BK242.out 0
                    have hfz56_1 := blk_frozen BK242.out 1
                    have hfz56_2 := blk_frozen BK242.out 2
                    have hfz56_3 := blk_frozen BK242.out 3
                    have hfz56_4 := blk_frozen BK242.out 4
                    try go_wp2
                    have n0_ := Aside0.mk (Kd.V_drew HO_0.out)
                    have n1_ := Aside0.mk (Kd.V_drew HO_243002.out)
                    have n2_ := Aside0.mk (Kd.V_drew HO_256002.out)
                    have n3_ := Aside0.mk (blk_drew BK242.out)
                    have n4_ := Aside0.mk (blk_drew BK255.out)
                    have n5_ := Aside0.mk (below_drew1 HB.out)
                    clear HO_0
                    clear HO_243002
                    clear HO_256002
                    clear BK242
                    clear BK255
                    clear HB
                    have HO_0 := n0_
                    have HO_243002 := n1_
                    have HO_256002 := n2_
                    have BK242 := n3_
                    have BK255 := n4_
                    have HB := n5_
                    clear n0_ n1_ n2_ n3_ n4_ n5_
                    have p256 : 0 ≤ (x12_5 : Int) := of_decide_eq_true (by first | (with_reducible assumption) | assumption)
                    have q256 : x12_5 < (l2_2.length : Int) := of_decide_eq_true (by first | (with_reducible assumption) | assumption)
                    obtain ⟨ad256, e256, hx256_0⟩ := Kd.at_int (Kd.V_reads' HO_243002.out).2.2 x12_5 p256 q256
                    cases e256
                    replace p256 := eq_true p256
                    replace q256 := eq_true q256
                    refine start_ (n := 25) (S := fun w' => w'.cell? ⟨gb242, 0, none⟩ = some (.int .u32 a2_0) ∧ w'.cell? ⟨gb242, 1, none⟩ = some (.int .i64 a2_1) ∧ w'.cell? ⟨gb242, 2, none⟩ = some (.slice (some ad256) l2_2.length c2_2) ∧ w'.cell? ⟨gb242, 3, none⟩ = some (.int .i64 a2_3) ∧ w'.cell? ⟨gb242, 4, none⟩ = some (.int .i64 a2_4) ∧ w'.cell? (ad256.add (x12_5).toNat) = some (.int .u32 (rd l2_2 x12_5))) (ds := []) #[false, false, false, false, false, false, false, false, false, false, false, false, false, false, false, false, false, false, false, false, false, false, false, false, false] (by kernel_rfl) rfl rfl ⟨(blk_cell BK242.out 0).trans rfl, (blk_cell BK242.out 1).trans rfl, (blk_cell BK242.out 2).trans rfl, (blk_cell BK242.out 3).trans rfl, (blk_cell BK242.out 4).trans rfl, hx256_0⟩ (fun hHeld => ?_); refine with_tabW tiltyardref17_Put.tab18 tiltyardref17_Put.bits18 (fun HT_ HW_ => ?_)
                    generalize wr.drew = w57 at HO_0 HO_243002 HO_256002 BK242 BK255 HB hx256_0 hHeld ⊢
                    refine pure_ (i := 0) (N := some 86) (v := ?_) (a' := ?_) #[true, false, false, false, false, false, false, false, false, false, false, false, false, false, false, false, false, false, false, false, false, false, false, false, false] rfl rfl (any_of HT_.out (by kernel_rfl)) (fun _ _ _ h => h) (Or.inl ⟨by rfl, ?_⟩) ?_ ?_
                    rotate_left
                    ·intro w'
                     go_simp
                     with_reducible rfl
                    rotate_left
                    ·simp only [Act.put, List.setIfInBounds_toArray, List.set_cons_zero, List.set_cons_succ, i64_w, i32_w]
                     rfl
                    refine pure_ (i := 1) (N := some 87) (v := ?_) (a' := ?_) #[true, true, false, false, false, false, false, false, false, false, false, false, false, false, false, false, false, false, false, false, false, false, false, false, false] rfl rfl (any_of HT_.out (by kernel_rfl)) (fun _ _ _ h => h) (Or.inl ⟨by rfl, ?_⟩) ?_ ?_
                    rotate_left
                    ·intro w'
                     go_simp
                     with_reducible rfl
                    rotate_left
                    ·simp only [Act.put, List.setIfInBounds_toArray, List.set_cons_zero, List.set_cons_succ, i64_w, i32_w]
                     rfl
                    refine pure_ (i := 2) (N := some 88) (v := ?_) (a' := ?_) #[true, true, true, false, false, false, false, false, false, false, false, false, false, false, false, false, false, false, false, false, false, false, false, false, false] rfl rfl (any_of HT_.out (by kernel_rfl)) (fun _ _ _ h => h) (Or.inl ⟨by rfl, ?_⟩) ?_ ?_
                    rotate_left
                    ·intro w'
                     go_simp
                     with_reducible rfl
                    rotate_left
                    ·simp only [Act.put, List.setIfInBounds_toArray, List.set_cons_zero, List.set_cons_succ, i64_w, i32_w]
                     rfl
                    refine pure_ (i := 3) (N := some 89) (v := ?_) (a' := ?_) #[true, true, true, true, false, false, false, false, false, false, false, false, false, false, false, false, false, false, false, false, false, false, false, false, false] rfl rfl (any_of HT_.out (by kernel_rfl)) (fun _ _ _ h => h) (Or.inl ⟨by rfl, ?_⟩) ?_ ?_
                    rotate_left
                    ·intro w'
                     go_simp
                     with_reducible rfl
                    rotate_left
                    ·simp only [Act.put, List.setIfInBounds_toArray, List.set_cons_zero, List.set_cons_succ, i64_w, i32_w]
                     rfl
                    refine pure_ (i := 5) (N := some 91) (v := ?_) (a' := ?_) #[true, true, true, true, false, true, false, false, false, false, false, false, false, false, false, false, false, false, false, false, false, false, false, false, false] rfl rfl (any_of HT_.out (by kernel_rfl)) (fun _ _ _ h => h) (Or.inl ⟨by rfl, ?_⟩) ?_ ?_
                    rotate_left
                    ·intro w'
                     go_simp
                     with_reducible rfl
                    rotate_left
                    ·simp only [Act.put, List.setIfInBounds_toArray, List.set_cons_zero, List.set_cons_succ, i64_w, i32_w]
                     rfl
                    refine take_ (i := 4) (N := some 90) (v := ?_) (a' := ?_) #[true, true, true, true, true, true, false, false, false, false, false, false, false, false, false, false, false, false, false, false, false, false, false, false, false] rfl rfl (take_ofW HT_.out HW_.out (by kernel_rfl)) (fun _ _ _ h => h) (Or.inl ⟨by rfl, ?_⟩) hHeld ?_ ?_
                    rotate_left
                    ·rintro w' ⟨s0, s1, s2, s3, s4, s5⟩
                     go_simp
                     with_reducible rfl
                    rotate_left
                    ·simp only [Act.put, List.setIfInBounds_toArray, List.set_cons_zero, List.set_cons_succ, i64_w, i32_w]
                     rfl
                    refine pure_ (i := 6) (N := some 92) (v := ?_) (a' := ?_) #[true, true, true, true, true, true, true, false, false, false, false, false, false, false, false, false, false, false, false, false, false, false, false, false, false] rfl rfl (any_of HT_.out (by kernel_rfl)) (fun _ _ _ h => h) (Or.inl ⟨by rfl, ?_⟩) ?_ ?_
                    rotate_left
                    ·intro w'
                     go_simp
                     with_reducible rfl
                    rotate_left
                    ·simp only [Act.put, List.setIfInBounds_toArray, List.set_cons_zero, List.set_cons_succ, i64_w, i32_w]
                     rfl
                    refine take_ (i := 7) (N := some 93) (v := ?_) (a' := ?_) #[true, true, true, true, true, true, true, true, false, false, false, false, false, false, false, false, false, false, false, false, false, false, false, false, false] rfl rfl (take_ofW HT_.out HW_.out (by kernel_rfl)) (fun _ _ _ h => h) (Or.inl ⟨by rfl, ?_⟩) hHeld ?_ ?_
                    rotate_left
                    ·rintro w' ⟨s0, s1, s2, s3, s4, s5⟩
                     go_simp
                     with_reducible rfl
                    rotate_left
                    ·simp only [Act.put, List.setIfInBounds_toArray, List.set_cons_zero, List.set_cons_succ, i64_w, i32_w]
                     rfl
                    refine one_ (i := 8) (N := some 94) #[true, true, true, true, true, true, true, true, true, false, false, false, false, false, false, false, false, false, false, false, false, false, false, false, false] rfl rfl (one_of HT_.out (by kernel_rfl)) (by decide) (fun K hK => ?_)
                    refine goes_ Try.func25 (by kernel_rfl) rfl #[.slice A0 l0.length c0, .int .u32 (rd l2_2 x12_5)] (by rfl) rfl rfl (by (try simp only [List.map_toArray, List.map_cons, List.map_nil]); first | done | rfl | (simp only [List.length_drop, List.length_take]; rfl)) ?_
                    with_reducible refine (tiltyardref17_Of.calls k5 _ _ l0 (rd l2_2 x12_5) t257 _ ?side1 ?side2 A45.out).mono ?_
                    (case side1 => repeat (first | exact (Kd.V_reads' HO_0.out).2.2 | (with_reducible refine Kd.C_alloc ?_ _) | (with_reducible refine Kd.C_drewN ?_ _) | (with_reducible refine Kd.C_drew ?_)))
                    (case side2 => exact (Kd.V_reads' HO_0.out).2.1)
                    rintro e w' ⟨rfl, ⟨nd, rfl⟩⟩
                    refine ⟨_, rfl, ?_⟩
                    refine hK.out _ _ ⟨(blk_cell BK242.out 0).trans rfl, (blk_cell BK242.out 1).trans rfl, (blk_cell BK242.out 2).trans rfl, (blk_cell BK242.out 3).trans rfl, (blk_cell BK242.out 4).trans rfl, hHeld.2.2.2.2.2⟩ (fun hHeld => ?_)
                    clear hK K
                    refine norm_ (a' := ?_) ?_ ?_
                    rotate_left
                    ·show Act.put _ (some 94) _ = _
                     simp only [Act.put, List.setIfInBounds_toArray, List.set_cons_zero, List.set_cons_succ, i64_w, i32_w]
                     rfl
                    refine pure_ (i := 9) (N := some 95) (v := ?_) (a' := ?_) #[true, true, true, true, true, true, true, true, true, true, false, false, false, false, false, false, false, false, false, false, false, false, false, false, false] rfl rfl (any_of HT_.out (by kernel_rfl)) (fun _ _ _ h => h) (Or.inl ⟨by rfl, ?_⟩) ?_ ?_
                    rotate_left
                    ·intro w'
                     go_simp
                     with_reducible rfl
                    rotate_left
                    ·simp only [Act.put, List.setIfInBounds_toArray, List.set_cons_zero, List.set_cons_succ, i64_w, i32_w]
                     rfl
                    refine pure_ (i := 10) (N := some 96) (v := ?_) (a' := ?_) #[true, true, true, true, true, true, true, true, true, true, true, false, false, false, false, false, false, false, false, false, false, false, false, false, false] rfl rfl (any_of HT_.out (by kernel_rfl)) (fun _ _ _ h => h) (Or.inl ⟨by rfl, ?_⟩) ?_ ?_
                    rotate_left
                    ·intro w'
                     go_simp
                     with_reducible rfl
                    rotate_left
                    ·simp only [Act.put, List.setIfInBounds_toArray, List.set_cons_zero, List.set_cons_succ, i64_w, i32_w]
                     rfl
                    refine pure_ (i := 11) (N := some 97) (v := ?_) (a' := ?_) #[true, true, true, true, true, true, true, true, true, true, true, true, false, false, false, false, false, false, false, false, false, false, false, false, false] rfl rfl (any_of HT_.out (by kernel_rfl)) (fun _ _ _ h => h) (Or.inl ⟨by rfl, ?_⟩) ?_ ?_
                    rotate_left
                    ·intro w'
                     go_simp
                     with_reducible rfl
                    rotate_left
                    ·simp only [Act.put, List.setIfInBounds_toArray, List.set_cons_zero, List.set_cons_succ, i64_w, i32_w]
                     rfl
                    refine pure_ (i := 12) (N := some 98) (v := undef) (a' := ?_) #[true, true, true, true, true, true, true, true, true, true, true, true, true, false, false, false, false, false, false, false, false, false, false, false, false] rfl rfl (any_of HT_.out (by kernel_rfl)) (fun _ _ _ h => h) (Or.inr ⟨by rfl, rfl⟩) ?_ ?_
                    rotate_left
                    ·simp only [Act.put, List.setIfInBounds_toArray, List.set_cons_zero, List.set_cons_succ, i64_w, i32_w]
                     rfl
                    refine pure_ (i := 13) (N := some 99) (v := undef) (a' := ?_) #[true, true, true, true, true, true, true, true, true, true, true, true, true, true, false, false, false, false, false, false, false, false, false, false, false] rfl rfl (any_of HT_.out (by kernel_rfl)) (fun _ _ _ h => h) (Or.inr ⟨by rfl, rfl⟩) ?_ ?_
                    rotate_left
                    ·simp only [Act.put, List.setIfInBounds_toArray, List.set_cons_zero, List.set_cons_succ, i64_w, i32_w]
                     rfl
                    refine pure_ (i := 14) (N := some 100) (v := undef) (a' := ?_) #[true, true, true, true, true, true, true, true, true, true, true, true, true, true, true, false, false, false, false, false, false, false, false, false, false] rfl rfl (any_of HT_.out (by kernel_rfl)) (fun _ _ _ h => h) (Or.inr ⟨by rfl, rfl⟩) ?_ ?_
                    rotate_left
                    ·simp only [Act.put, List.setIfInBounds_toArray, List.set_cons_zero, List.set_cons_succ, i64_w, i32_w]
                     rfl
                    refine pure_ (i := 15) (N := some 101) (v := undef) (a' := ?_) #[true, true, true, true, true, true, true, true, true, true, true, true, true, true, true, true, false, false, false, false, false, false, false, false, false] rfl rfl (any_of HT_.out (by kernel_rfl)) (fun _ _ _ h => h) (Or.inr ⟨by rfl, rfl⟩) ?_ ?_
                    rotate_left
                    ·simp only [Act.put, List.setIfInBounds_toArray, List.set_cons_zero, List.set_cons_succ, i64_w, i32_w]
                     rfl
                    refine pure_ (i := 16) (N := some 102) (v := undef) (a' := ?_) #[true, true, true, true, true, true, true, true, true, true, true, true, true, true, true, true, true, false, false, false, false, false, false, false, false] rfl rfl (any_of HT_.out (by kernel_rfl)) (fun _ _ _ h => h) (Or.inr ⟨by rfl, rfl⟩) ?_ ?_
                    rotate_left
                    ·simp only [Act.put, List.setIfInBounds_toArray, List.set_cons_zero, List.set_cons_succ, i64_w, i32_w]
                     rfl
                    refine pure_ (i := 17) (N := some 103) (v := undef) (a' := ?_) #[true, true, true, true, true, true, true, true, true, true, true, true, true, true, true, true, true, true, false, false, false, false, false, false, false] rfl rfl (any_of HT_.out (by kernel_rfl)) (fun _ _ _ h => h) (Or.inr ⟨by rfl, rfl⟩) ?_ ?_
                    rotate_left
                    ·simp only [Act.put, List.setIfInBounds_toArray, List.set_cons_zero, List.set_cons_succ, i64_w, i32_w]
                     rfl
                    refine pure_ (i := 18) (N := some 104) (v := undef) (a' := ?_) #[true, true, true, true, true, true, true, true, true, true, true, true, true, true, true, true, true, true, true, false, false, false, false, false, false] rfl rfl (any_of HT_.out (by kernel_rfl)) (fun _ _ _ h => h) (Or.inr ⟨by rfl, rfl⟩) ?_ ?_
                    rotate_left
                    ·simp only [Act.put, List.setIfInBounds_toArray, List.set_cons_zero, List.set_cons_succ, i64_w, i32_w]
                     rfl
                    refine pure_ (i := 19) (N := some 105) (v := undef) (a' := ?_) #[true, true, true, true, true, true, true, true, true, true, true, true, true, true, true, true, true, true, true, true, false, false, false, false, false] rfl rfl (any_of HT_.out (by kernel_rfl)) (fun _ _ _ h => h) (Or.inr ⟨by rfl, rfl⟩) ?_ ?_
                    rotate_left
                    ·simp only [Act.put, List.setIfInBounds_toArray, List.set_cons_zero, List.set_cons_succ, i64_w, i32_w]
                     rfl
                    refine pure_ (i := 20) (N := some 106) (v := undef) (a' := ?_) #[true, true, true, true, true, true, true, true, true, true, true, true, true, true, true, true, true, true, true, true, true, false, false, false, false] rfl rfl (any_of HT_.out (by kernel_rfl)) (fun _ _ _ h => h) (Or.inr ⟨by rfl, rfl⟩) ?_ ?_
                    rotate_left
                    ·simp only [Act.put, List.setIfInBounds_toArray, List.set_cons_zero, List.set_cons_succ, i64_w, i32_w]
                     rfl
                    refine pure_ (i := 21) (N := some 107) (v := undef) (a' := ?_) #[true, true, true, true, true, true, true, true, true, true, true, true, true, true, true, true, true, true, true, true, true, true, false, false, false] rfl rfl (any_of HT_.out (by kernel_rfl)) (fun _ _ _ h => h) (Or.inr ⟨by rfl, rfl⟩) ?_ ?_
                    rotate_left
                    ·simp only [Act.put, List.setIfInBounds_toArray, List.set_cons_zero, List.set_cons_succ, i64_w, i32_w]
                     rfl
                    refine pure_ (i := 22) (N := some 108) (v := undef) (a' := ?_) #[true, true, true, true, true, true, true, true, true, true, true, true, true, true, true, true, true, true, true, true, true, true, true, false, false] rfl rfl (any_of HT_.out (by kernel_rfl)) (fun _ _ _ h => h) (Or.inr ⟨by rfl, rfl⟩) ?_ ?_
                    rotate_left
                    ·simp only [Act.put, List.setIfInBounds_toArray, List.set_cons_zero, List.set_cons_succ, i64_w, i32_w]
                     rfl
                    refine pure_ (i := 23) (N := some 109) (v := ?_) (a' := ?_) #[true, true, true, true, true, true, true, true, true, true, true, true, true, true, true, true, true, true, true, true, true, true, true, true, false] rfl rfl (any_of HT_.out (by kernel_rfl)) (fun _ _ _ h => h) (Or.inl ⟨by rfl, ?_⟩) ?_ ?_
                    rotate_left
                    ·intro w'
                     go_simp
                     with_reducible rfl
                    rotate_left
                    ·simp only [Act.put, List.setIfInBounds_toArray, List.set_cons_zero, List.set_cons_succ, i64_w, i32_w]
                     rfl
                    refine pure_ (i := 24) (N := some 11) (v := ?_) (a' := ?_) #[true, true, true, true, true, true, true, true, true, true, true, true, true, true, true, true, true, true, true, true, true, true, true, true, true] rfl rfl (any_of HT_.out (by kernel_rfl)) (fun _ _ _ h => h) (Or.inl ⟨by rfl, ?_⟩) ?_ ?_
                    rotate_left
                    ·intro w'
                     go_simp
                     with_reducible rfl
                    rotate_left
                    ·simp only [Act.put, List.setIfInBounds_toArray, List.set_cons_zero, List.set_cons_succ, i64_w, i32_w]
                     rfl
                    refine done_ (done_of HT_.out (by kernel_rfl)) ?_
                    try go_wp2
                    go_roundg k5
                    case measure => have := HK1.out; have := HJ13.out; have := HJ19.out; have := HJ26.out; have := HK5.out; omega
                    case rel => exact ⟨(true), (wrap64 (x12_5 + 1)), (by first | rfl | (simp; done) | (simp [*]; done)), (by first | rfl | (simp; done) | (simp [*]; done)), H', ⟨by have := HK1.out; have := HJ13.out; have := HJ19.out; have := HJ26.out; have := HK5.out; omega⟩, ⟨by (with_reducible repeat (first | apply Kd.V_alloc | apply Kd.V_drewN | apply Kd.V_drew)); exact HO_0.out⟩, ⟨by (with_reducible repeat (first | apply Kd.V_alloc | apply Kd.V_drewN | apply Kd.V_drew)); exact HO_243002.out⟩, ⟨by (with_reducible repeat (first | apply Kd.V_alloc | apply Kd.V_drewN | apply Kd.V_drew)); exact HO_256002.out⟩, ⟨by (with_reducible repeat (first | refine blk_drewN ?_ _ | refine blk_drew ?_ | refine blk_alloc ?_ _)); exact BK242.out⟩, ⟨by (with_reducible repeat (first | refine blk_drewN ?_ _ | refine blk_drew ?_ | refine blk_alloc ?_ _)); exact BK255.out⟩, ⟨by repeat (first | (with_reducible first | exact HB.out | apply below_alloc | apply pw_below_drewN | apply below_drew1 | refine below_set ?_ GE242.out | refine below_set ?_ GE255.out) | exact HB.out)⟩⟩
                  ·rw [if_neg c44] at H
                   exact absurd H (by simp)
                ·rw [if_neg c39] at H
                 have c39b0 : decide (x12_5 < (l2_2.length : Int)) = false := decide_eq_false c39
                 clear c39
                 by_cases c58 : x11_5 = true
                 ·subst c58
                  have H1 : (some (l0, 11)) = some (r1, r2) := by rw [if_pos rfl] at H; exact H
                  clear H
                  have H := H1
                  clear H1
                  simp only [Option.some.injEq, Prod.mk.injEq] at H
                  obtain ⟨rfl, rfl⟩ := H
                  have hnb59 := NB242_255.out
                  have hnc59 := NB255_242.out
                  have hcz60_0 : wr.cell? ⟨gb242, 0, none⟩ = some (.int .u32 a2_0) := (blk_cell BK242.out 0).trans rfl
                  have hcz60_1 : wr.cell? ⟨gb242, 1, none⟩ = some (.int .i64 a2_1) := (blk_cell BK242.out 1).trans rfl
                  have hcz60_2 : wr.cell? ⟨gb242, 2, none⟩ = some (.slice A2_2 l2_2.length c2_2) := (blk_cell BK242.out 2).trans rfl
                  have hcz60_3 : wr.cell? ⟨gb242, 3, none⟩ = some (.int .i64 a2_3) := (blk_cell BK242.out 3).trans rfl
                  have hcz60_4 : wr.cell? ⟨gb242, 4, none⟩ = some (.int .i64 a2_4) := (blk_cell BK242.out 4).trans rfl
                  have hfz60_0 := blk_frozen BK242.out 0
                  have hfz60_1 := blk_frozen BK242.out 1
                  have hfz60_2 := blk_frozen BK242.out 2
                  have hfz60_3 := blk_frozen BK242.out 3
                  have hfz60_4 := blk_frozen BK242.out 4
                  go_wp2
                  go_ret2
                  exact ⟨_, by first | rfl | (simp [errW_none, errW_some] <;> rfl) | (simp [*, errW_none, errW_some] <;> rfl), by (with_reducible repeat (first | apply Kd.V_alloc | apply Kd.V_drewN | apply Kd.V_drew)); exact Kd.V_mono HO_0.out (fun _ hk => hk.1), by repeat (first | (with_reducible first | exact HB.out | apply below_alloc | apply pw_below_drewN | apply below_drew1 | refine below_set ?_ GE242.out | refine below_set ?_ GE255.out) | exact HB.out)⟩
                 ·replace c58 := Bool.eq_false_iff.mpr c58
                  subst c58
                  have H1 : ((tiltyardref17_Mode.f k5 l0 a2_1).bind fun t265 => (if (t265.length : Int) ≥ 16 then (some (l0, 10)) else ((some (([] : List (S36)) : List (S36))).bind fun y268 => (if y268.length + l0.length < 2513169434916 then ((some (y268 ++ l0 : List (S36))).bind fun y271 => ((some (([(⟨a2_0, a2_1, l2_2, a2_3, a2_4⟩ : S36)] : List (S36)) : List (S36))).bind fun y274 => (if y271.length + y274.length < 2513169434916 then (some ((y271 ++ y274), 0)) else (none)))) else (none))))) = some (r1, r2) := by rw [if_neg (show ¬ (false = true) by decide)] at H; exact H
                  clear H
                  have H := H1
                  clear H1
                  replace H := Option.bind_eq_some_iff.mp H
                  obtain ⟨t265, A610, H⟩ := H
                  replace H : (if (t265.length : Int) ≥ 16 then (some (l0, 10)) else ((some (([] : List (S36)) : List (S36))).bind fun y268 => (if y268.length + l0.length < 2513169434916 then ((some (y268 ++ l0 : List (S36))).bind fun y271 => ((some (([(⟨a2_0, a2_1, l2_2, a2_3, a2_4⟩ : S36)] : List (S36)) : List (S36))).bind fun y274 => (if y271.length + y274.length < 2513169434916 then (some ((y271 ++ y274), 0)) else (none)))) else (none)))) = some (r1, r2) := H
                  have A61 := Aside0.mk A610
                  clear A610
                  by_cases c62 : (t265.length : Int) ≥ 16
                  ·rw [if_pos c62] at H
                   have c62b0 : decide (16 ≤ (t265.length : Int)) = true := decide_eq_true c62
                   have c62b1 : decide (16 ≤ t265.length) = true := decide_eq_true (by omega)
                   clear c62
                   simp only [Option.some.injEq, Prod.mk.injEq] at H
                   obtain ⟨rfl, rfl⟩ := H
                   have hnb63 := NB242_255.out
                   have hnc63 := NB255_242.out
                   have hcz64_0 : wr.cell? ⟨gb242, 0, none⟩ = some (.int .u32 a2_0) := (blk_cell BK242.out 0).trans rfl
                   have hcz64_1 : wr.cell? ⟨gb242, 1, none⟩ = some (.int .i64 a2_1) := (blk_cell BK242.out 1).trans rfl
                   have hcz64_2 : wr.cell? ⟨gb242, 2, none⟩ = some (.slice A2_2 l2_2.length c2_2) := (blk_cell BK242.out 2).trans rfl
                   have hcz64_3 : wr.cell? ⟨gb242, 3, none⟩ = some (.int .i64 a2_3) := (blk_cell BK242.out 3).trans rfl
                   have hcz64_4 : wr.cell? ⟨gb242, 4, none⟩ = some (.int .i64 a2_4) := (blk_cell BK242.out 4).trans rfl
                   have hfz64_0 := blk_frozen BK242.out 0
                   have hfz64_1 := blk_frozen BK242.out 1
                   have hfz64_2 := blk_frozen BK242.out 2
                   have hfz64_3 := blk_frozen BK242.out 3
                   have hfz64_4 := blk_frozen BK242.out 4
                   go_wp2_with (first | ((with_reducible refine gate_callee (f := 67) rfl ?_); refine goesL_ (some 115) rfl rfl Try.func67 (by kernel_rfl) rfl #[.slice A0 l0.length c0, .int .i64 a2_1] rfl (by (try simp only [List.map_toArray, List.map_cons, List.map_nil]); first | done | rfl | (simp only [List.length_drop, List.length_take]; rfl)) ?_; (with_reducible refine (tiltyardref17_Mode.calls k5 (fun k_ => (((P0_ k_ ∨ P2_2_ k_) ∨ w.heap.size ≤ k_) ∧ (k_ ≠ gb242 ∧ k_ ≠ gb255))) _ _ l0 a2_1 t265 _ ?side1 A61.out).mono ?_); (case side1 => exact HO_0.out); rintro e w65 ⟨v266, rfl, ho0, hb⟩; refine ⟨_, rfl, ?_⟩; have n0_ := Aside0.mk (Kd.V_elder' (by (with_reducible repeat (first | apply Kd.V_alloc | apply Kd.V_drewN | apply Kd.V_drew)); exact HO_0.out) (Kd.N_base ho0) hb); have n1_ := Aside0.mk (Kd.V_elder' (by (with_reducible repeat (first | apply Kd.V_alloc | apply Kd.V_drewN | apply Kd.V_drew)); exact HO_243002.out) (Kd.N_base ho0) hb); have n2_ := Aside0.mk (Kd.V_elder' (by (with_reducible repeat (first | apply Kd.V_alloc | apply Kd.V_drewN | apply Kd.V_drew)); exact HO_256002.out) (Kd.N_base ho0) hb); have n3_ := Aside0.mk (Kd.N_lower (Kd.N_mono (ok' := fun k_ => ((P0_ k_ ∨ P2_2_ k_) ∨ w.heap.size ≤ k_) ∧ k_ ≠ gb242 ∧ k_ ≠ gb255) ho0 (fun k_ hk_ => ⟨Or.elim hk_ (fun hs_ => hs_.1) (fun hn_ => (.inr (Nat.le_trans (below_size (by repeat (first | (with_reducible first | exact HB.out | apply below_alloc | apply pw_below_drewN | apply below_drew1 | refine below_set ?_ GE242.out | refine below_set ?_ GE255.out) | exact HB.out))) hn_))), Or.elim hk_ (fun hs_ => hs_.2.1) (fun hn_ => (Kd.freshB (g := gb242) (o := .cells #[.int .u32 a2_0, .int .i64 a2_1, .slice A2_2 l2_2.length c2_2, .int .i64 a2_3, .int .i64 a2_4] 36 (0, 0)) (by (with_reducible repeat (first | refine blk_drewN ?_ _ | refine blk_drew ?_ | refine blk_alloc ?_ _)); exact BK242.out) k_ hn_)), Or.elim hk_ (fun hs_ => hs_.2.2) (fun hn_ => (Kd.freshB (g := gb255) (o := .cells #[.int .u32 t247, .int .i64 t248, .slice Ao38 t249.length co38, .int .i64 t252, .int .i64 t253] 36 (0, 0)) (by (with_reducible repeat (first | refine blk_drewN ?_ _ | refine blk_drew ?_ | refine blk_alloc ?_ _)); exact BK255.out) k_ hn_))⟩)) (below_size (by repeat (first | (with_reducible first | exact HB.out | apply below_alloc | apply pw_below_drewN | apply below_drew1 | refine below_set ?_ GE242.out | refine below_set ?_ GE255.out) | exact HB.out)))); have n4_ := Aside0.mk (blk_below (g := gb242) (o := .cells #[.int .u32 a2_0, .int .i64 a2_1, .slice A2_2 l2_2.length c2_2, .int .i64 a2_3, .int .i64 a2_4] 36 (0, 0)) (by (with_reducible repeat (first | refine blk_drewN ?_ _ | refine blk_drew ?_ | refine blk_alloc ?_ _)); exact BK242.out) hb); have n5_ := Aside0.mk (blk_below (g := gb255) (o := .cells #[.int .u32 t247, .int .i64 t248, .slice Ao38 t249.length co38, .int .i64 t252, .int .i64 t253] 36 (0, 0)) (by (with_reducible repeat (first | refine blk_drewN ?_ _ | refine blk_drew ?_ | refine blk_alloc ?_ _)); exact BK255.out) hb); have n6_ := Aside0.mk (below_step (by repeat (first | (with_reducible first | exact HB.out | apply below_alloc | apply pw_below_drewN | apply below_drew1 | refine below_set ?_ GE242.out | refine below_set ?_ GE255.out) | exact HB.out)) hb); clear HO_0; clear HO_243002; clear HO_256002; clear BK242; clear BK255; clear HB; have HO_0 := n0_; have HO_243002 := n1_; have HO_256002 := n2_; have HO267 := n3_; have BK242 := n4_; have BK255 := n5_; have HB := n6_; clear n0_ n1_ n2_ n3_ n4_ n5_ n6_; (try clear hb); (try clear hb2); (try clear hk); (try clear hi); (try clear ho0); obtain ⟨Ao66, co66, eo66⟩ := Kd.N_slice HO267.out; subst eo66))
                   go_ret2
                   exact ⟨_, by first | rfl | (simp [errW_none, errW_some] <;> rfl) | (simp [*, errW_none, errW_some] <;> rfl), by (with_reducible repeat (first | apply Kd.V_alloc | apply Kd.V_drewN | apply Kd.V_drew)); exact Kd.V_mono HO_0.out (fun _ hk => hk.1.1), by repeat (first | (with_reducible first | exact HB.out | apply below_alloc | apply pw_below_drewN | apply below_drew1 | refine below_set ?_ GE242.out | refine below_set ?_ GE255.out) | exact HB.out)⟩
                  ·rw [if_neg c62] at H
                   have c62b0 : decide (16 ≤ (t265.length : Int)) = false := decide_eq_false c62
                   have c62b1 : decide (16 ≤ t265.length) = false := decide_eq_false (by omega)
                   clear c62
                   obtain ⟨y268, hy268⟩ : ∃ y_ : List (S36), y_ = (([] : List (S36))) := ⟨_, rfl⟩
                   replace H : (if y268.length + l0.length < 2513169434916 then ((some (y268 ++ l0 : List (S36))).bind fun y271 => ((some (([(⟨a2_0, a2_1, l2_2, a2_3, a2_4⟩ : S36)] : List (S36)) : List (S36))).bind fun y274 => (if y271.length + y274.length < 2513169434916 then (some ((y271 ++ y274), 0)) else (none)))) else (none)) = some (r1, r2) := by first | (rw [hy268]; with_reducible exact H) | (have H2_ := (Option.bind_some _ _).symm.trans H; rw [hy268]; with_reducible exact H2_) | (have H2_ := (Option.bind_some _ _).symm.trans H; with_reducible exact H2_) | with_reducible exact H | (rw [hy268]; exact H) | exact H
                   have Ny268 := Aside0.mk hy268
                   clear hy268
                   by_cases c67 : y268.length + l0.length < 2513169434916
                   ·rw [if_pos c67] at H
                    have LMc67 := Aside0.mk c67
                    clear c67
                    obtain ⟨y271, hy271⟩ : ∃ y_ : List (S36), y_ = (y268 ++ l0) := ⟨_, rfl⟩
                    replace H : ((some (([(⟨a2_0, a2_1, l2_2, a2_3, a2_4⟩ : S36)] : List (S36)) : List (S36))).bind fun y274 => (if y271.length + y274.length < 2513169434916 then (some ((y271 ++ y274), 0)) else (none))) = some (r1, r2) := by first | (rw [hy271]; with_reducible exact H) | (have H2_ := (Option.bind_some _ _).symm.trans H; rw [hy271]; with_reducible exact H2_) | (have H2_ := (Option.bind_some _ _).symm.trans H; with_reducible exact H2_) | with_reducible exact H | (rw [hy271]; exact H) | exact H
                    have Ny271 := Aside0.mk hy271
                    clear hy271
                    obtain ⟨y274, hy274⟩ : ∃ y_ : List (S36), y_ = (([(⟨a2_0, a2_1, l2_2, a2_3, a2_4⟩ : S36)] : List (S36))) := ⟨_, rfl⟩
                    replace H : (if y271.length + y274.length < 2513169434916 then (some ((y271 ++ y274), 0)) else (none)) = some (r1, r2) := by first | (rw [hy274]; with_reducible exact H) | (have H2_ := (Option.bind_some _ _).symm.trans H; rw [hy274]; with_reducible exact H2_) | (have H2_ := (Option.bind_some _ _).symm.trans H; with_reducible exact H2_) | with_reducible exact H | (rw [hy274]; exact H) | exact H
                    have Ny274 := Aside0.mk hy274
                    clear hy274
                    by_cases c68 : y271.length + y274.length < 2513169434916
                    ·rw [if_pos c68] at H
                     have LMc68 := Aside0.mk c68
                     clear c68
                     obtain ⟨y277, hy277⟩ : ∃ y_ : List (S36), y_ = (y271 ++ y274) := ⟨_, rfl⟩
                     replace H : (some (y277, 0)) = some (r1, r2) := by first | (rw [hy277]; with_reducible exact H) | (have H2_ := (Option.bind_some _ _).symm.trans H; rw [hy277]; with_reducible exact H2_) | (have H2_ := (Option.bind_some _ _).symm.trans H; with_reducible exact H2_) | with_reducible exact H | (rw [hy277]; exact H) | exact H
                     have Ny277 := Aside0.mk hy277
                     clear hy277
                     simp only [Option.some.injEq, Prod.mk.injEq] at H
                     obtain ⟨rfl, rfl⟩ := H
                     have hnb69 := NB242_255.out
                     have hnc69 := NB255_242.out
                     have hcz70_0 : wr.cell? ⟨gb242, 0, none⟩ = some (.int .u32 a2_0) := (blk_cell BK242.out 0).trans rfl
                     have hcz70_1 : wr.cell? ⟨gb242, 1, none⟩ = some (.int .i64 a2_1) := (blk_cell BK242.out 1).trans rfl
                     have hcz70_2 : wr.cell? ⟨gb242, 2, none⟩ = some (.slice A2_2 l2_2.length c2_2) := (blk_cell BK242.out 2).trans rfl
                     have hcz70_3 : wr.cell? ⟨gb242, 3, none⟩ = some (.int .i64 a2_3) := (blk_cell BK242.out 3).trans rfl
                     have hcz70_4 : wr.cell? ⟨gb242, 4, none⟩ = some (.int .i64 a2_4) := (blk_cell BK242.out 4).trans rfl
                     have hfz70_0 := blk_frozen BK242.out 0
                     have hfz70_1 := blk_frozen BK242.out 1
                     have hfz70_2 := blk_frozen BK242.out 2
                     have hfz70_3 := blk_frozen BK242.out 3
                     have hfz70_4 := blk_frozen BK242.out 4
                     try go_wp2_with (first | ((with_reducible refine gate_callee (f := 67) rfl ?_); refine goesL_ (some 115) rfl rfl Try.func67 (by kernel_rfl) rfl #[.slice A0 l0.length c0, .int .i64 a2_1] rfl (by (try simp only [List.map_toArray, List.map_cons, List.map_nil]); first | done | rfl | (simp only [List.length_drop, List.length_take]; rfl)) ?_; (with_reducible refine (tiltyardref17_Mode.calls k5 (fun k_ => (((P0_ k_ ∨ P2_2_ k_) ∨ w.heap.size ≤ k_) ∧ (k_ ≠ gb242 ∧ k_ ≠ gb255))) _ _ l0 a2_1 t265 _ ?side1 A61.out).mono ?_); (case side1 => exact HO_0.out); rintro e w71 ⟨v266, rfl, ho0, hb⟩; refine ⟨_, rfl, ?_⟩; have n0_ := Aside0.mk (Kd.V_elder' (by (with_reducible repeat (first | apply Kd.V_alloc | apply Kd.V_drewN | apply Kd.V_drew)); exact HO_0.out) (Kd.N_base ho0) hb); have n1_ := Aside0.mk (Kd.V_elder' (by (with_reducible repeat (first | apply Kd.V_alloc | apply Kd.V_drewN | apply Kd.V_drew)); exact HO_243002.out) (Kd.N_base ho0) hb); have n2_ := Aside0.mk (Kd.V_elder' (by (with_reducible repeat (first | apply Kd.V_alloc | apply Kd.V_drewN | apply Kd.V_drew)); exact HO_256002.out) (Kd.N_base ho0) hb); have n3_ := Aside0.mk (Kd.N_lower (Kd.N_mono (ok' := fun k_ => ((P0_ k_ ∨ P2_2_ k_) ∨ w.heap.size ≤ k_) ∧ k_ ≠ gb242 ∧ k_ ≠ gb255) ho0 (fun k_ hk_ => ⟨Or.elim hk_ (fun hs_ => hs_.1) (fun hn_ => (.inr (Nat.le_trans (below_size (by repeat (first | (with_reducible first | exact HB.out | apply below_alloc | apply pw_below_drewN | apply below_drew1 | refine below_set ?_ GE242.out | refine below_set ?_ GE255.out) | exact HB.out))) hn_))), Or.elim hk_ (fun hs_ => hs_.2.1) (fun hn_ => (Kd.freshB (g := gb242) (o := .cells #[.int .u32 a2_0, .int .i64 a2_1, .slice A2_2 l2_2.length c2_2, .int .i64 a2_3, .int .i64 a2_4] 36 (0, 0)) (by (with_reducible repeat (first | refine blk_drewN ?_ _ | refine blk_drew ?_ | refine blk_alloc ?_ _)); exact BK242.out) k_ hn_)), Or.elim hk_ (fun hs_ => hs_.2.2) (fun hn_ => (Kd.freshB (g := gb255) (o := .cells #[.int .u32 t247, .int .i64 t248, .slice Ao38 t249.length co38, .int .i64 t252, .int .i64 t253] 36 (0, 0)) (by (with_reducible repeat (first | refine blk_drewN ?_ _ | refine blk_drew ?_ | refine blk_alloc ?_ _)); exact BK255.out) k_ hn_))⟩)) (below_size (by repeat (first | (with_reducible first | exact HB.out | apply below_alloc | apply pw_below_drewN | apply below_drew1 | refine below_set ?_ GE242.out | refine below_set ?_ GE255.out) | exact HB.out)))); have n4_ := Aside0.mk (blk_below (g := gb242) (o := .cells #[.int .u32 a2_0, .int .i64 a2_1, .slice A2_2 l2_2.length c2_2, .int .i64 a2_3, .int .i64 a2_4] 36 (0, 0)) (by (with_reducible repeat (first | refine blk_drewN ?_ _ | refine blk_drew ?_ | refine blk_alloc ?_ _)); exact BK242.out) hb); have n5_ := Aside0.mk (blk_below (g := gb255) (o := .cells #[.int .u32 t247, .int .i64 t248, .slice Ao38 t249.length co38, .int .i64 t252, .int .i64 t253] 36 (0, 0)) (by (with_reducible repeat (first | refine blk_drewN ?_ _ | refine blk_drew ?_ | refine blk_alloc ?_ _)); exact BK255.out) hb); have n6_ := Aside0.mk (below_step (by repeat (first | (with_reducible first | exact HB.out | apply below_alloc | apply pw_below_drewN | apply below_drew1 | refine below_set ?_ GE242.out | refine below_set ?_ GE255.out) | exact HB.out)) hb); clear HO_0; clear HO_243002; clear HO_256002; clear BK242; clear BK255; clear HB; have HO_0 := n0_; have HO_243002 := n1_; have HO_256002 := n2_; have HO267 := n3_; have BK242 := n4_; have BK255 := n5_; have HB := n6_; clear n0_ n1_ n2_ n3_ n4_ n5_ n6_; (try clear hb); (try clear hb2); (try clear hk); (try clear hi); (try clear ho0); obtain ⟨Ao72, co72, eo72⟩ := Kd.N_slice HO267.out; subst eo72))
                     have n0_ := Aside0.mk (Kd.V_drew HO_0.out)
                     have n1_ := Aside0.mk (Kd.V_drew HO_243002.out)
                     have n2_ := Aside0.mk (Kd.V_drew HO_256002.out)
                     have n3_ := Aside0.mk (Kd.N_drew HO267.out)
                     have n4_ := Aside0.mk (blk_drew BK242.out)
                     have n5_ := Aside0.mk (blk_drew BK255.out)
                     have n6_ := Aside0.mk (below_drew1 HB.out)
                     clear HO_0
                     clear HO_243002
                     clear HO_256002
                     clear HO267
                     clear BK242
                     clear BK255
                     clear HB
                     have HO_0 := n0_
                     have HO_243002 := n1_
                     have HO_256002 := n2_
                     have HO267 := n3_
                     have BK242 := n4_
                     have BK255 := n5_
                     have HB := n6_
                     clear n0_ n1_ n2_ n3_ n4_ n5_ n6_
                     refine start_ (n := 8) (S := fun w' => w'.cell? ⟨gb242, 0, none⟩ = some (.int .u32 a2_0) ∧ w'.cell? ⟨gb242, 1, none⟩ = some (.int .i64 a2_1) ∧ w'.cell? ⟨gb242, 2, none⟩ = some (.slice A2_2 l2_2.length c2_2) ∧ w'.cell? ⟨gb242, 3, none⟩ = some (.int .i64 a2_3) ∧ w'.cell? ⟨gb242, 4, none⟩ = some (.int .i64 a2_4)) (ds := []) #[false, false, false, false, false, false, false, false] (by kernel_rfl) rfl rfl ⟨(blk_cell BK242.out 0).trans rfl, (blk_cell BK242.out 1).trans rfl, (blk_cell BK242.out 2).trans rfl, (blk_cell BK242.out 3).trans rfl, (blk_cell BK242.out 4).trans rfl⟩ (fun hHeld => ?_); refine with_tabW tiltyardref17_Put.tab23 tiltyardref17_Put.bits23 (fun HT_ HW_ => ?_)
                     generalize w71.drew = w73 at HO_0 HO_243002 HO_256002 HO267 BK242 BK255 HB hHeld ⊢
                     refine pure_ (i := 1) (N := some 120) (v := ?_) (a' := ?_) #[false, true, false, false, false, false, false, false] rfl rfl (any_of HT_.out (by kernel_rfl)) (fun _ _ _ h => h) (Or.inl ⟨by rfl, ?_⟩) ?_ ?_
                     rotate_left
                     ·intro w'
                      go_simp
                      with_reducible rfl
                     rotate_left
                     ·simp only [Act.put, List.setIfInBounds_toArray, List.set_cons_zero, List.set_cons_succ, i64_w, i32_w]
                      rfl
                     refine take_ (i := 3) (N := some 122) (v := ?_) (a' := ?_) #[false, true, false, true, false, false, false, false] rfl rfl (take_ofW HT_.out HW_.out (by kernel_rfl)) (fun _ _ _ h => h) (Or.inl ⟨by rfl, ?_⟩) hHeld ?_ ?_
                     rotate_left
                     ·rintro w' ⟨s0, s1, s2, s3, s4⟩
                      go_simp
                      with_reducible rfl
                     rotate_left
                     ·simp only [Act.put, List.setIfInBounds_toArray, List.set_cons_zero, List.set_cons_succ, i64_w, i32_w]
                      rfl
                     refine join_ (σ := Value × Value × Value) 3 #[true, true, true, true, true, false, false, false] (fun s_ => [(119, s_.1), (121, s_.2.1), (123, s_.2.2)]) (fun s_ w' => (w'.cell? ⟨gb242, 0, none⟩ = some (.int .u32 a2_0) ∧ w'.cell? ⟨gb242, 1, none⟩ = some (.int .i64 a2_1) ∧ w'.cell? ⟨gb242, 2, none⟩ = some (.slice A2_2 l2_2.length c2_2) ∧ w'.cell? ⟨gb242, 3, none⟩ = some (.int .i64 a2_3) ∧ w'.cell? ⟨gb242, 4, none⟩ = some (.int .i64 a2_4)) ∧ (Kd.N k36 36 w' w.heap.size (fun k_ => ((P0_ k_ ∨ P2_2_ k_) ∨ w.heap.size ≤ k_) ∧ some k_ ≠ (s_.2.1 : Value).ownBlock ∧ some k_ ≠ (s_.2.2 : Value).ownBlock ∧ k_ ≠ gb242 ∧ k_ ≠ gb255) (.slice Ao72 t265.length co72) t265) ∧ (Kd.N k36 36 w' w.heap.size (fun k_ => ((P0_ k_ ∨ P2_2_ k_) ∨ w.heap.size ≤ k_) ∧ some k_ ≠ (.slice Ao72 t265.length co72 : Value).ownBlock ∧ some k_ ≠ (s_.2.2 : Value).ownBlock ∧ k_ ≠ gb242 ∧ k_ ≠ gb255) s_.2.1 y271) ∧ (Kd.N k36 36 w' w.heap.size (fun k_ => ((P0_ k_ ∨ P2_2_ k_) ∨ w.heap.size ≤ k_) ∧ some k_ ≠ (.slice Ao72 t265.length co72 : Value).ownBlock ∧ some k_ ≠ (s_.2.1 : Value).ownBlock ∧ k_ ≠ gb242 ∧ k_ ≠ gb255) s_.2.2 y274) ∧ (Kd.V k36 36 w' w.heap.size (fun k_ => ((P0_ k_ ∨ P2_2_ k_) ∨ w.heap.size ≤ k_) ∧ some k_ ≠ (.slice Ao72 t265.length co72 : Value).ownBlock ∧ some k_ ≠ (s_.2.1 : Value).ownBlock ∧ some k_ ≠ (s_.2.2 : Value).ownBlock ∧ k_ ≠ gb242 ∧ k_ ≠ gb255) (.slice A0 l0.length c0) l0) ∧ (Kd.V (Kd.int .u32) 33 w' w.heap.size (fun k_ => ((P0_ k_ ∨ P2_2_ k_) ∨ w.heap.size ≤ k_) ∧ some k_ ≠ (.slice Ao72 t265.length co72 : Value).ownBlock ∧ some k_ ≠ (s_.2.1 : Value).ownBlock ∧ some k_ ≠ (s_.2.2 : Value).ownBlock ∧ k_ ≠ gb242 ∧ k_ ≠ gb255) (.slice A2_2 l2_2.length c2_2) l2_2) ∧ (Kd.V (Kd.int .u32) 33 w' w.heap.size (fun k_ => ((P0_ k_ ∨ P2_2_ k_) ∨ w.heap.size ≤ k_) ∧ some k_ ≠ (.slice Ao72 t265.length co72 : Value).ownBlock ∧ some k_ ≠ (s_.2.1 : Value).ownBlock ∧ some k_ ≠ (s_.2.2 : Value).ownBlock ∧ k_ ≠ gb242 ∧ k_ ≠ gb255) (.slice Ao38 t249.length co38) t249) ∧ (w'.heap[gb242]? = some (.cells #[.int .u32 a2_0, .int .i64 a2_1, .slice A2_2 l2_2.length c2_2, .int .i64 a2_3, .int .i64 a2_4] 36 (0, 0))) ∧ (w'.heap[gb255]? = some (.cells #[.int .u32 t247, .int .i64 t248, .slice Ao38 t249.length co38, .int .i64 t252, .int .i64 t253] 36 (0, 0))) ∧ (Below w.heap.size w w')) ?_ ?_
                     rotate_left
                     ·intro hCont
                      refine two_ (i := 0) (j := 4) (Ni := some 119) (Nj := some 123) #[true, true, false, true, false, false, false, false] #[false, true, false, true, true, false, false, false] rfl rfl rfl rfl (two_of HT_.out (by kernel_rfl)) (by decide) (by decide) (fun K hK => ?_) (fun K hK => ?_)
                      ·skip
                       refine Kd.N_lit_step k36 _ 36 ?hg (N' := 119) ?hd (xs := ([] : List (S36))) (inner := []) (ok := (fun k_ => ((P0_ k_ ∨ P2_2_ k_) ∨ w.heap.size ≤ k_) ∧ some k_ ≠ (.slice Ao72 t265.length co72 : Value).ownBlock ∧ k_ ≠ gb242 ∧ k_ ≠ gb255)) (okp := (fun k_ => ((P0_ k_ ∨ P2_2_ k_) ∨ w.heap.size ≤ k_) ∧ some k_ ≠ (.slice Ao72 t265.length co72 : Value).ownBlock ∧ k_ ≠ gb242 ∧ k_ ≠ gb255)) ?hr ?hp (fun _ hk => hk) ((show ∀ k_, w73.heap.size ≤ k_ → (fun k_ => ((P0_ k_ ∨ P2_2_ k_) ∨ w.heap.size ≤ k_) ∧ some k_ ≠ (.slice Ao72 t265.length co72 : Value).ownBlock ∧ k_ ≠ gb242 ∧ k_ ≠ gb255) k_ from fun k_ hk => ⟨(.inr (Nat.le_trans (below_size (by repeat (first | (with_reducible first | exact HB.out | apply below_alloc | apply pw_below_drewN | apply below_drew1 | refine below_set ?_ GE242.out | refine below_set ?_ GE255.out) | exact HB.out))) hk)), Kd.fresh' (Kd.N_lt (by (with_reducible repeat (first | apply Kd.N_alloc | apply Kd.N_drewN | apply Kd.N_drew)); exact HO267.out)) k_ hk, Kd.freshB (g := gb242) (o := .cells #[.int .u32 a2_0, .int .i64 a2_1, .slice A2_2 l2_2.length c2_2, .int .i64 a2_3, .int .i64 a2_4] 36 (0, 0)) (by (with_reducible repeat (first | refine blk_drewN ?_ _ | refine blk_drew ?_ | refine blk_alloc ?_ _)); exact BK242.out) k_ hk, Kd.freshB (g := gb255) (o := .cells #[.int .u32 t247, .int .i64 t248, .slice Ao38 t249.length co38, .int .i64 t252, .int .i64 t253] 36 (0, 0)) (by (with_reducible repeat (first | refine blk_drewN ?_ _ | refine blk_drew ?_ | refine blk_alloc ?_ _)); exact BK255.out) k_ hk⟩) _ (Nat.le_refl _)) (Below.refl _ _) (Nat.le_refl _) (by simp) ?_; (case hd => rfl); (case hg => rfl); (case hr => first | (go_simp; done) | (go_simp; rfl)); (case hp => exact (Reps.none _ _))
                       intro v269 w74 ho75 hb hg_ hnew_
                       clear hg_ hnew_
                       (first | rw [← Ny268.out] at ho75 | (simp only [Int.reduceToNat] at ho75; rw [← Ny268.out] at ho75))
                       have n0_ := Aside0.mk (Kd.V_elder' (by (with_reducible repeat (first | apply Kd.V_alloc | apply Kd.V_drewN | apply Kd.V_drew)); exact HO_0.out) (Kd.N_base ho75) hb)
                       have n1_ := Aside0.mk (Kd.V_elder' (by (with_reducible repeat (first | apply Kd.V_alloc | apply Kd.V_drewN | apply Kd.V_drew)); exact HO_243002.out) (Kd.N_base ho75) hb)
                       have n2_ := Aside0.mk (Kd.V_elder' (by (with_reducible repeat (first | apply Kd.V_alloc | apply Kd.V_drewN | apply Kd.V_drew)); exact HO_256002.out) (Kd.N_base ho75) hb)
                       have n3_ := Aside0.mk (Kd.N_elder' (by (with_reducible repeat (first | apply Kd.N_alloc | apply Kd.N_drewN | apply Kd.N_drew)); exact HO267.out) (Kd.N_base ho75) hb)
                       have n4_ := Aside0.mk (Kd.N_lower ho75 (below_size (by repeat (first | (with_reducible first | exact HB.out | apply below_alloc | apply pw_below_drewN | apply below_drew1 | refine below_set ?_ GE242.out | refine below_set ?_ GE255.out) | exact HB.out))))
                       have n5_ := Aside0.mk (blk_below (g := gb242) (o := .cells #[.int .u32 a2_0, .int .i64 a2_1, .slice A2_2 l2_2.length c2_2, .int .i64 a2_3, .int .i64 a2_4] 36 (0, 0)) (by (with_reducible repeat (first | refine blk_drewN ?_ _ | refine blk_drew ?_ | refine blk_alloc ?_ _)); exact BK242.out) hb)
                       have n6_ := Aside0.mk (blk_below (g := gb255) (o := .cells #[.int .u32 t247, .int .i64 t248, .slice Ao38 t249.length co38, .int .i64 t252, .int .i64 t253] 36 (0, 0)) (by (with_reducible repeat (first | refine blk_drewN ?_ _ | refine blk_drew ?_ | refine blk_alloc ?_ _)); exact BK255.out) hb)
                       have n7_ := Aside0.mk (below_step (by repeat (first | (with_reducible first | exact HB.out | apply below_alloc | apply pw_below_drewN | apply below_drew1 | refine below_set ?_ GE242.out | refine below_set ?_ GE255.out) | exact HB.out)) hb)
                       clear HO_0
                       clear HO_243002
                       clear HO_256002
                       clear HO267
                       clear BK242
                       clear BK255
                       clear HB
                       have HO_0 := n0_
                       have HO_243002 := n1_
                       have HO_256002 := n2_
                       have HO267 := n3_
                       have HO270 := n4_
                       have BK242 := n5_
                       have BK255 := n6_
                       have HB := n7_
                       clear n0_ n1_ n2_ n3_ n4_ n5_ n6_ n7_
                       clear hb ho75
                       refine hK.out _ _ ⟨(blk_cell BK242.out 0).trans rfl, (blk_cell BK242.out 1).trans rfl, (blk_cell BK242.out 2).trans rfl, (blk_cell BK242.out 3).trans rfl, (blk_cell BK242.out 4).trans rfl⟩ (fun hHeld => ?_)
                       clear hK K
                       refine norm_ (a' := ?_) ?_ ?_
                       rotate_left
                       ·show Act.put _ (some 119) _ = _
                        simp only [Act.put, List.setIfInBounds_toArray, List.set_cons_zero, List.set_cons_succ, i64_w, i32_w]
                        rfl
                       refine two_ (i := 2) (j := 4) (Ni := some 121) (Nj := some 123) #[true, true, true, true, false, false, false, false] #[true, true, false, true, true, false, false, false] rfl rfl rfl rfl (two_of HT_.out (by kernel_rfl)) (by decide) (by decide) (fun K hK => ?_) (fun K hK => ?_)
                       ·skip
                        refine Kd.N_append_rows_step k36 (w0 := w) w.heap.size (by rfl) (.tmp 119) (.tmp 120) 22 36 (.agg #[(.int .u32 0), (.int .i64 0), (.slice none 0 0), (.int .i64 0), (.int .i64 0)]) 56 rfl Try.underlying22 info36 rfl (by decide) (by omega) v269 y268 l0 _ _ _ (fun k_ => ((P0_ k_ ∨ P2_2_ k_) ∨ w.heap.size ≤ k_) ∧ some k_ ≠ (.slice Ao72 t265.length co72 : Value).ownBlock ∧ k_ ≠ gb242 ∧ k_ ≠ gb255) (fun k_ => ((fun k_ => ((P0_ k_ ∨ P2_2_ k_) ∨ w.heap.size ≤ k_) ∧ some k_ ≠ (.slice Ao72 t265.length co72 : Value).ownBlock ∧ k_ ≠ gb242 ∧ k_ ≠ gb255)) k_ ∧ some k_ ≠ (v269 : Value).ownBlock) rfl rfl ?aO ?aR (fun _ hk => hk) ?aF ?aB ?aS ?aL ?_
                        (case aR => exact (by skip; exact Kd.V_F (Kd.V_mono (ok' := (fun k_ => ((fun k_ => ((P0_ k_ ∨ P2_2_ k_) ∨ w.heap.size ≤ k_) ∧ some k_ ≠ (.slice Ao72 t265.length co72 : Value).ownBlock ∧ k_ ≠ gb242 ∧ k_ ≠ gb255)) k_ ∧ some k_ ≠ (v269 : Value).ownBlock)) (HO_0.out) (fun k_ hk => ⟨⟨hk.1.1.1, ⟨hk.1.2, ⟨hk.1.1.2.1, hk.1.1.2.2⟩⟩⟩, hk.2⟩))))
                        (case aB => exact (by repeat (first | (with_reducible first | exact HB.out | apply below_alloc | apply pw_below_drewN | apply below_drew1 | refine below_set ?_ GE242.out | refine below_set ?_ GE255.out) | exact HB.out)))
                        (case aF => exact (fun k_ hk => ⟨(.inr (Nat.le_trans (below_size (by repeat (first | (with_reducible first | exact HB.out | apply below_alloc | apply pw_below_drewN | apply below_drew1 | refine below_set ?_ GE242.out | refine below_set ?_ GE255.out) | exact HB.out))) hk)), Kd.fresh' (Kd.N_lt (by (with_reducible repeat (first | apply Kd.N_alloc | apply Kd.N_drewN | apply Kd.N_drew)); exact HO267.out)) k_ hk, Kd.freshB (g := gb242) (o := .cells #[.int .u32 a2_0, .int .i64 a2_1, .slice A2_2 l2_2.length c2_2, .int .i64 a2_3, .int .i64 a2_4] 36 (0, 0)) (by (with_reducible repeat (first | refine blk_drewN ?_ _ | refine blk_drew ?_ | refine blk_alloc ?_ _)); exact BK242.out) k_ hk, Kd.freshB (g := gb255) (o := .cells #[.int .u32 t247, .int .i64 t248, .slice Ao38 t249.length co38, .int .i64 t252, .int .i64 t253] 36 (0, 0)) (by (with_reducible repeat (first | refine blk_drewN ?_ _ | refine blk_drew ?_ | refine blk_alloc ?_ _)); exact BK255.out) k_ hk⟩))
                        (case aO => exact (by (with_reducible repeat (first | apply Kd.N_alloc | apply Kd.N_drewN | apply Kd.N_drew)); exact HO270.out))
                        (case aS => exact (below_size (by repeat (first | (with_reducible first | exact HB.out | apply below_alloc | apply pw_below_drewN | apply below_drew1 | refine below_set ?_ GE242.out | refine below_set ?_ GE255.out) | exact HB.out))))
                        (case aL => have := LMc67.out; omega)
                        intro v272 w76 ho hb hg hat
                        rw [← Ny271.out] at ho
                        have n0_ := Aside0.mk (Kd.V_afterv (ok := (fun k_ => ((P0_ k_ ∨ P2_2_ k_) ∨ w.heap.size ≤ k_) ∧ some k_ ≠ (.slice Ao72 t265.length co72 : Value).ownBlock ∧ k_ ≠ gb242 ∧ k_ ≠ gb255)) (by (with_reducible repeat (first | apply Kd.V_alloc | apply Kd.V_drewN | apply Kd.V_drew)); exact Kd.V_mono HO_0.out (fun _ hk => ⟨⟨hk.1.1.1, ⟨hk.1.2, ⟨hk.1.1.2.1, hk.1.1.2.2⟩⟩⟩, hk.2⟩)) hg hat)
                        have n1_ := Aside0.mk (Kd.V_afterv (ok := (fun k_ => ((P0_ k_ ∨ P2_2_ k_) ∨ w.heap.size ≤ k_) ∧ some k_ ≠ (.slice Ao72 t265.length co72 : Value).ownBlock ∧ k_ ≠ gb242 ∧ k_ ≠ gb255)) (by (with_reducible repeat (first | apply Kd.V_alloc | apply Kd.V_drewN | apply Kd.V_drew)); exact Kd.V_mono HO_243002.out (fun _ hk => ⟨⟨hk.1.1.1, ⟨hk.1.2, ⟨hk.1.1.2.1, hk.1.1.2.2⟩⟩⟩, hk.2⟩)) hg hat)
                        have n2_ := Aside0.mk (Kd.V_afterv (ok := (fun k_ => ((P0_ k_ ∨ P2_2_ k_) ∨ w.heap.size ≤ k_) ∧ some k_ ≠ (.slice Ao72 t265.length co72 : Value).ownBlock ∧ k_ ≠ gb242 ∧ k_ ≠ gb255)) (by (with_reducible repeat (first | apply Kd.V_alloc | apply Kd.V_drewN | apply Kd.V_drew)); exact Kd.V_mono HO_256002.out (fun _ hk => ⟨⟨hk.1.1.1, ⟨hk.1.2, ⟨hk.1.1.2.1, hk.1.1.2.2⟩⟩⟩, hk.2⟩)) hg hat)
                        have n3_ := Aside0.mk (blk_grown (g := gb242) (o := .cells #[.int .u32 a2_0, .int .i64 a2_1, .slice A2_2 l2_2.length c2_2, .int .i64 a2_3, .int .i64 a2_4] 36 (0, 0)) (by (with_reducible repeat (first | refine blk_drewN ?_ _ | refine blk_drew ?_ | refine blk_alloc ?_ _)); exact BK242.out) hg (Kd.N_away HO270.out (fun _ hk => hk.2.2.1)))
                        have n4_ := Aside0.mk (blk_grown (g := gb255) (o := .cells #[.int .u32 t247, .int .i64 t248, .slice Ao38 t249.length co38, .int .i64 t252, .int .i64 t253] 36 (0, 0)) (by (with_reducible repeat (first | refine blk_drewN ?_ _ | refine blk_drew ?_ | refine blk_alloc ?_ _)); exact BK255.out) hg (Kd.N_away HO270.out (fun _ hk => hk.2.2.2)))
                        have n5_ := Aside0.mk (Kd.N_afterv (ok := (fun k_ => ((P0_ k_ ∨ P2_2_ k_) ∨ w.heap.size ≤ k_) ∧ k_ ≠ gb242 ∧ k_ ≠ gb255)) (by (with_reducible repeat (first | apply Kd.N_alloc | apply Kd.N_drewN | apply Kd.N_drew)); exact HO267.out) hg hat)
                        have n6_ := Aside0.mk (hb)
                        have n7_ := Aside0.mk (ho)
                        clear HO_0
                        clear HO_243002
                        clear HO_256002
                        clear BK242
                        clear BK255
                        clear HO267
                        clear HB
                        clear HO270
                        have HO_0 := n0_
                        have HO_243002 := n1_
                        have HO_256002 := n2_
                        have BK242 := n3_
                        have BK255 := n4_
                        have HO267 := n5_
                        have HB := n6_
                        have HO273 := n7_
                        clear n0_ n1_ n2_ n3_ n4_ n5_ n6_ n7_
                        clear ho hb hg hat
                        refine hK.out _ _ ⟨(blk_cell BK242.out 0).trans rfl, (blk_cell BK242.out 1).trans rfl, (blk_cell BK242.out 2).trans rfl, (blk_cell BK242.out 3).trans rfl, (blk_cell BK242.out 4).trans rfl⟩ (fun hHeld => ?_)
                        clear hK K
                        refine norm_ (a' := ?_) ?_ ?_
                        rotate_left
                        ·show Act.put _ (some 121) _ = _
                         simp only [Act.put, List.setIfInBounds_toArray, List.set_cons_zero, List.set_cons_succ, i64_w, i32_w]
                         rfl
                        refine one_ (i := 4) (N := some 123) #[true, true, true, true, true, false, false, false] rfl rfl (one_of HT_.out (by kernel_rfl)) (by decide) (fun K hK => ?_)
                        refine Kd.N_lit_step k36 _ 36 ?hg (N' := 123) ?hd (xs := ([(⟨a2_0, a2_1, l2_2, a2_3, a2_4⟩ : S36)] : List (S36))) (inner := [.int .u32 a2_0, .int .i64 a2_1, .slice A2_2 l2_2.length c2_2, .int .i64 a2_3, .int .i64 a2_4]) (ok := (fun k_ => ((P0_ k_ ∨ P2_2_ k_) ∨ w.heap.size ≤ k_) ∧ some k_ ≠ (.slice Ao72 t265.length co72 : Value).ownBlock ∧ some k_ ≠ (v272 : Value).ownBlock ∧ k_ ≠ gb242 ∧ k_ ≠ gb255)) (okp := (fun k_ => ((P0_ k_ ∨ P2_2_ k_) ∨ w.heap.size ≤ k_) ∧ some k_ ≠ (.slice Ao72 t265.length co72 : Value).ownBlock ∧ some k_ ≠ (v272 : Value).ownBlock ∧ k_ ≠ gb242 ∧ k_ ≠ gb255)) ?hr ?hp (fun _ hk => hk) ((show ∀ k_, w76.heap.size ≤ k_ → (fun k_ => ((P0_ k_ ∨ P2_2_ k_) ∨ w.heap.size ≤ k_) ∧ some k_ ≠ (.slice Ao72 t265.length co72 : Value).ownBlock ∧ some k_ ≠ (v272 : Value).ownBlock ∧ k_ ≠ gb242 ∧ k_ ≠ gb255) k_ from fun k_ hk => ⟨(.inr (Nat.le_trans (below_size (by repeat (first | (with_reducible first | exact HB.out | apply below_alloc | apply pw_below_drewN | apply below_drew1 | refine below_set ?_ GE242.out | refine below_set ?_ GE255.out) | exact HB.out))) hk)), Kd.fresh' (Kd.N_lt (by (with_reducible repeat (first | apply Kd.N_alloc | apply Kd.N_drewN | apply Kd.N_drew)); exact HO267.out)) k_ hk, Kd.fresh' (Kd.N_lt (by (with_reducible repeat (first | apply Kd.N_alloc | apply Kd.N_drewN | apply Kd.N_drew)); exact HO273.out)) k_ hk, Kd.freshB (g := gb242) (o := .cells #[.int .u32 a2_0, .int .i64 a2_1, .slice A2_2 l2_2.length c2_2, .int .i64 a2_3, .int .i64 a2_4] 36 (0, 0)) (by (with_reducible repeat (first | refine blk_drewN ?_ _ | refine blk_drew ?_ | refine blk_alloc ?_ _)); exact BK242.out) k_ hk, Kd.freshB (g := gb255) (o := .cells #[.int .u32 t247, .int .i64 t248, .slice Ao38 t249.length co38, .int .i64 t252, .int .i64 t253] 36 (0, 0)) (by (with_reducible repeat (first | refine blk_drewN ?_ _ | refine blk_drew ?_ | refine blk_alloc ?_ _)); exact BK255.out) k_ hk⟩) _ (Nat.le_refl _)) (Below.refl _ _) (Nat.le_refl _) (by simp) ?_; (case hd => rfl); (case hg => rfl); (case hr => first | (go_simp; done) | (go_simp; rfl)); (case hp => exact (Reps.c5 (show Kd.FK k36 _ _ (⟨a2_0, a2_1, l2_2, a2_3, a2_4⟩ : S36) [.int .u32 a2_0, .int .i64 a2_1, .slice A2_2 l2_2.length c2_2, .int .i64 a2_3, .int .i64 a2_4] from (k36_mkF _ _ (⟨a2_0, a2_1, l2_2, a2_3, a2_4⟩ : S36) (Kd.V_reads' (Kd.V_mono (ok' := (fun k_ => ((P0_ k_ ∨ P2_2_ k_) ∨ w.heap.size ≤ k_) ∧ some k_ ≠ (.slice Ao72 t265.length co72 : Value).ownBlock ∧ some k_ ≠ (v272 : Value).ownBlock ∧ k_ ≠ gb242 ∧ k_ ≠ gb255)) (HO_243002.out) (fun k_ hk => ⟨hk.1.1, ⟨hk.1.2.1, ⟨hk.2, ⟨hk.1.2.2.1, hk.1.2.2.2⟩⟩⟩⟩))).2.1 (Kd.V_F (Kd.V_mono (ok' := (fun k_ => ((P0_ k_ ∨ P2_2_ k_) ∨ w.heap.size ≤ k_) ∧ some k_ ≠ (.slice Ao72 t265.length co72 : Value).ownBlock ∧ some k_ ≠ (v272 : Value).ownBlock ∧ k_ ≠ gb242 ∧ k_ ≠ gb255)) (HO_243002.out) (fun k_ hk => ⟨hk.1.1, ⟨hk.1.2.1, ⟨hk.2, ⟨hk.1.2.2.1, hk.1.2.2.2⟩⟩⟩⟩))))) (Reps.none _ _)))
                        intro v275 w77 ho78 hb hg_ hnew_
                        clear hg_ hnew_
                        (first | rw [← Ny274.out] at ho78 | (simp only [Int.reduceToNat] at ho78; rw [← Ny274.out] at ho78))
                        have n0_ := Aside0.mk (Kd.V_elder' (by (with_reducible repeat (first | apply Kd.V_alloc | apply Kd.V_drewN | apply Kd.V_drew)); exact HO_0.out) (Kd.N_base ho78) hb)
                        have n1_ := Aside0.mk (Kd.V_elder' (by (with_reducible repeat (first | apply Kd.V_alloc | apply Kd.V_drewN | apply Kd.V_drew)); exact HO_243002.out) (Kd.N_base ho78) hb)
                        have n2_ := Aside0.mk (Kd.V_elder' (by (with_reducible repeat (first | apply Kd.V_alloc | apply Kd.V_drewN | apply Kd.V_drew)); exact HO_256002.out) (Kd.N_base ho78) hb)
                        have n3_ := Aside0.mk (Kd.N_elder' (by (with_reducible repeat (first | apply Kd.N_alloc | apply Kd.N_drewN | apply Kd.N_drew)); exact HO267.out) (Kd.N_base ho78) hb)
                        have n4_ := Aside0.mk (Kd.N_elder' (by (with_reducible repeat (first | apply Kd.N_alloc | apply Kd.N_drewN | apply Kd.N_drew)); exact HO273.out) (Kd.N_base ho78) hb)
                        have n5_ := Aside0.mk (Kd.N_lower ho78 (below_size (by repeat (first | (with_reducible first | exact HB.out | apply below_alloc | apply pw_below_drewN | apply below_drew1 | refine below_set ?_ GE242.out | refine below_set ?_ GE255.out) | exact HB.out))))
                        have n6_ := Aside0.mk (blk_below (g := gb242) (o := .cells #[.int .u32 a2_0, .int .i64 a2_1, .slice A2_2 l2_2.length c2_2, .int .i64 a2_3, .int .i64 a2_4] 36 (0, 0)) (by (with_reducible repeat (first | refine blk_drewN ?_ _ | refine blk_drew ?_ | refine blk_alloc ?_ _)); exact BK242.out) hb)
                        have n7_ := Aside0.mk (blk_below (g := gb255) (o := .cells #[.int .u32 t247, .int .i64 t248, .slice Ao38 t249.length co38, .int .i64 t252, .int .i64 t253] 36 (0, 0)) (by (with_reducible repeat (first | refine blk_drewN ?_ _ | refine blk_drew ?_ | refine blk_alloc ?_ _)); exact BK255.out) hb)
                        have n8_ := Aside0.mk (below_step (by repeat (first | (with_reducible first | exact HB.out | apply below_alloc | apply pw_below_drewN | apply below_drew1 | refine below_set ?_ GE242.out | refine below_set ?_ GE255.out) | exact HB.out)) hb)
                        clear HO_0
                        clear HO_243002
                        clear HO_256002
                        clear HO267
                        clear HO273
                        clear BK242
                        clear BK255
                        clear HB
                        have HO_0 := n0_
                        have HO_243002 := n1_
                        have HO_256002 := n2_
                        have HO267 := n3_
                        have HO273 := n4_
                        have HO276 := n5_
                        have BK242 := n6_
                        have BK255 := n7_
                        have HB := n8_
                        clear n0_ n1_ n2_ n3_ n4_ n5_ n6_ n7_ n8_
                        clear hb ho78
                        refine hK.out _ _ ⟨(blk_cell BK242.out 0).trans rfl, (blk_cell BK242.out 1).trans rfl, (blk_cell BK242.out 2).trans rfl, (blk_cell BK242.out 3).trans rfl, (blk_cell BK242.out 4).trans rfl⟩ (fun hHeld => ?_)
                        clear hK K
                        refine norm_ (a' := ?_) ?_ ?_
                        rotate_left
                        ·show Act.put _ (some 123) _ = _
                         simp only [Act.put, List.setIfInBounds_toArray, List.set_cons_zero, List.set_cons_succ, i64_w, i32_w]
                         rfl
                        exact norm_ (by simp only [putAll, Act.put, List.setIfInBounds_toArray, List.set_cons_zero, List.set_cons_succ]) (hCont (v269, v272, v275) _ ⟨hHeld, (by (with_reducible repeat (first | apply Kd.N_alloc | apply Kd.N_drewN | apply Kd.N_drew)); exact Kd.N_mono HO267.out (fun _ hk => ⟨hk.1.1.1, ⟨hk.1.2, ⟨hk.2, ⟨hk.1.1.2.1, hk.1.1.2.2⟩⟩⟩⟩)), (by (with_reducible repeat (first | apply Kd.N_alloc | apply Kd.N_drewN | apply Kd.N_drew)); exact Kd.N_mono HO273.out (fun _ hk => ⟨hk.1.1, ⟨hk.1.2.1, ⟨hk.2, ⟨hk.1.2.2.1, hk.1.2.2.2⟩⟩⟩⟩)), (by (with_reducible repeat (first | apply Kd.N_alloc | apply Kd.N_drewN | apply Kd.N_drew)); exact HO276.out), (by (with_reducible repeat (first | apply Kd.V_alloc | apply Kd.V_drewN | apply Kd.V_drew)); exact Kd.V_mono HO_0.out (fun _ hk => ⟨hk.1.1.1, ⟨hk.1.1.2.1, ⟨hk.1.2, ⟨hk.2, ⟨hk.1.1.2.2.1, hk.1.1.2.2.2⟩⟩⟩⟩⟩)), (by (with_reducible repeat (first | apply Kd.V_alloc | apply Kd.V_drewN | apply Kd.V_drew)); exact Kd.V_mono HO_243002.out (fun _ hk => ⟨hk.1.1.1, ⟨hk.1.1.2.1, ⟨hk.1.2, ⟨hk.2, ⟨hk.1.1.2.2.1, hk.1.1.2.2.2⟩⟩⟩⟩⟩)), (by (with_reducible repeat (first | apply Kd.V_alloc | apply Kd.V_drewN | apply Kd.V_drew)); exact Kd.V_mono HO_256002.out (fun _ hk => ⟨hk.1.1.1, ⟨hk.1.1.2.1, ⟨hk.1.2, ⟨hk.2, ⟨hk.1.1.2.2.1, hk.1.1.2.2.2⟩⟩⟩⟩⟩)), (by (with_reducible repeat (first | refine blk_drewN ?_ _ | refine blk_drew ?_ | refine blk_alloc ?_ _)); exact BK242.out), (by (with_reducible repeat (first | refine blk_drewN ?_ _ | refine blk_drew ?_ | refine blk_alloc ?_ _)); exact BK255.out), (by repeat (first | (with_reducible first | exact HB.out | apply below_alloc | apply pw_below_drewN | apply below_drew1 | refine below_set ?_ GE242.out | refine below_set ?_ GE255.out) | exact HB.out))⟩)
                       ·skip
                        refine Kd.N_lit_step k36 _ 36 ?hg (N' := 123) ?hd (xs := ([(⟨a2_0, a2_1, l2_2, a2_3, a2_4⟩ : S36)] : List (S36))) (inner := [.int .u32 a2_0, .int .i64 a2_1, .slice A2_2 l2_2.length c2_2, .int .i64 a2_3, .int .i64 a2_4]) (ok := (fun k_ => ((P0_ k_ ∨ P2_2_ k_) ∨ w.heap.size ≤ k_) ∧ some k_ ≠ (.slice Ao72 t265.length co72 : Value).ownBlock ∧ some k_ ≠ (v269 : Value).ownBlock ∧ k_ ≠ gb242 ∧ k_ ≠ gb255)) (okp := (fun k_ => ((P0_ k_ ∨ P2_2_ k_) ∨ w.heap.size ≤ k_) ∧ some k_ ≠ (.slice Ao72 t265.length co72 : Value).ownBlock ∧ some k_ ≠ (v269 : Value).ownBlock ∧ k_ ≠ gb242 ∧ k_ ≠ gb255)) ?hr ?hp (fun _ hk => hk) ((show ∀ k_, w74.heap.size ≤ k_ → (fun k_ => ((P0_ k_ ∨ P2_2_ k_) ∨ w.heap.size ≤ k_) ∧ some k_ ≠ (.slice Ao72 t265.length co72 : Value).ownBlock ∧ some k_ ≠ (v269 : Value).ownBlock ∧ k_ ≠ gb242 ∧ k_ ≠ gb255) k_ from fun k_ hk => ⟨(.inr (Nat.le_trans (below_size (by repeat (first | (with_reducible first | exact HB.out | apply below_alloc | apply pw_below_drewN | apply below_drew1 | refine below_set ?_ GE242.out | refine below_set ?_ GE255.out) | exact HB.out))) hk)), Kd.fresh' (Kd.N_lt (by (with_reducible repeat (first | apply Kd.N_alloc | apply Kd.N_drewN | apply Kd.N_drew)); exact HO267.out)) k_ hk, Kd.fresh' (Kd.N_lt (by (with_reducible repeat (first | apply Kd.N_alloc | apply Kd.N_drewN | apply Kd.N_drew)); exact HO270.out)) k_ hk, Kd.freshB (g := gb242) (o := .cells #[.int .u32 a2_0, .int .i64 a2_1, .slice A2_2 l2_2.length c2_2, .int .i64 a2_3, .int .i64 a2_4] 36 (0, 0)) (by (with_reducible repeat (first | refine blk_drewN ?_ _ | refine blk_drew ?_ | refine blk_alloc ?_ _)); exact BK242.out) k_ hk, Kd.freshB (g := gb255) (o := .cells #[.int .u32 t247, .int .i64 t248, .slice Ao38 t249.length co38, .int .i64 t252, .int .i64 t253] 36 (0, 0)) (by (with_reducible repeat (first | refine blk_drewN ?_ _ | refine blk_drew ?_ | refine blk_alloc ?_ _)); exact BK255.out) k_ hk⟩) _ (Nat.le_refl _)) (Below.refl _ _) (Nat.le_refl _) (by simp) ?_; (case hd => rfl); (case hg => rfl); (case hr => first | (go_simp; done) | (go_simp; rfl)); (case hp => exact (Reps.c5 (show Kd.FK k36 _ _ (⟨a2_0, a2_1, l2_2, a2_3, a2_4⟩ : S36) [.int .u32 a2_0, .int .i64 a2_1, .slice A2_2 l2_2.length c2_2, .int .i64 a2_3, .int .i64 a2_4] from (k36_mkF _ _ (⟨a2_0, a2_1, l2_2, a2_3, a2_4⟩ : S36) (Kd.V_reads' (Kd.V_mono (ok' := (fun k_ => ((P0_ k_ ∨ P2_2_ k_) ∨ w.heap.size ≤ k_) ∧ some k_ ≠ (.slice Ao72 t265.length co72 : Value).ownBlock ∧ some k_ ≠ (v269 : Value).ownBlock ∧ k_ ≠ gb242 ∧ k_ ≠ gb255)) (HO_243002.out) (fun k_ hk => ⟨hk.1.1.1, ⟨hk.1.2, ⟨hk.2, ⟨hk.1.1.2.1, hk.1.1.2.2⟩⟩⟩⟩))).2.1 (Kd.V_F (Kd.V_mono (ok' := (fun k_ => ((P0_ k_ ∨ P2_2_ k_) ∨ w.heap.size ≤ k_) ∧ some k_ ≠ (.slice Ao72 t265.length co72 : Value).ownBlock ∧ some k_ ≠ (v269 : Value).ownBlock ∧ k_ ≠ gb242 ∧ k_ ≠ gb255)) (HO_243002.out) (fun k_ hk => ⟨hk.1.1.1, ⟨hk.1.2, ⟨hk.2, ⟨hk.1.1.2.1, hk.1.1.2.2⟩⟩⟩⟩))))) (Reps.none _ _)))
                        intro v275 w76 ho77 hb hg_ hnew_
                        clear hg_ hnew_
                        (first | rw [← Ny274.out] at ho77 | (simp only [Int.reduceToNat] at ho77; rw [← Ny274.out] at ho77))
                        have n0_ := Aside0.mk (Kd.V_elder' (by (with_reducible repeat (first | apply Kd.V_alloc | apply Kd.V_drewN | apply Kd.V_drew)); exact HO_0.out) (Kd.N_base ho77) hb)
                        have n1_ := Aside0.mk (Kd.V_elder' (by (with_reducible repeat (first | apply Kd.V_alloc | apply Kd.V_drewN | apply Kd.V_drew)); exact HO_243002.out) (Kd.N_base ho77) hb)
                        have n2_ := Aside0.mk (Kd.V_elder' (by (with_reducible repeat (first | apply Kd.V_alloc | apply Kd.V_drewN | apply Kd.V_drew)); exact HO_256002.out) (Kd.N_base ho77) hb)
                        have n3_ := Aside0.mk (Kd.N_elder' (by (with_reducible repeat (first | apply Kd.N_alloc | apply Kd.N_drewN | apply Kd.N_drew)); exact HO267.out) (Kd.N_base ho77) hb)
                        have n4_ := Aside0.mk (Kd.N_elder' (by (with_reducible repeat (first | apply Kd.N_alloc | apply Kd.N_drewN | apply Kd.N_drew)); exact HO270.out) (Kd.N_base ho77) hb)
                        have n5_ := Aside0.mk (Kd.N_lower ho77 (below_size (by repeat (first | (with_reducible first | exact HB.out | apply below_alloc | apply pw_below_drewN | apply below_drew1 | refine below_set ?_ GE242.out | refine below_set ?_ GE255.out) | exact HB.out))))
                        have n6_ := Aside0.mk (blk_below (g := gb242) (o := .cells #[.int .u32 a2_0, .int .i64 a2_1, .slice A2_2 l2_2.length c2_2, .int .i64 a2_3, .int .i64 a2_4] 36 (0, 0)) (by (with_reducible repeat (first | refine blk_drewN ?_ _ | refine blk_drew ?_ | refine blk_alloc ?_ _)); exact BK242.out) hb)
                        have n7_ := Aside0.mk (blk_below (g := gb255) (o := .cells #[.int .u32 t247, .int .i64 t248, .slice Ao38 t249.length co38, .int .i64 t252, .int .i64 t253] 36 (0, 0)) (by (with_reducible repeat (first | refine blk_drewN ?_ _ | refine blk_drew ?_ | refine blk_alloc ?_ _)); exact BK255.out) hb)
                        have n8_ := Aside0.mk (below_step (by repeat (first | (with_reducible first | exact HB.out | apply below_alloc | apply pw_below_drewN | apply below_drew1 | refine below_set ?_ GE242.out | refine below_set ?_ GE255.out) | exact HB.out)) hb)
                        clear HO_0
                        clear HO_243002
                        clear HO_256002
                        clear HO267
                        clear HO270
                        clear BK242
                        clear BK255
                        clear HB
                        have HO_0 := n0_
                        have HO_243002 := n1_
                        have HO_256002 := n2_
                        have HO267 := n3_
                        have HO270 := n4_
                        have HO276 := n5_
                        have BK242 := n6_
                        have BK255 := n7_
                        have HB := n8_
                        clear n0_ n1_ n2_ n3_ n4_ n5_ n6_ n7_ n8_
                        clear hb ho77
                        refine hK.out _ _ ⟨(blk_cell BK242.out 0).trans rfl, (blk_cell BK242.out 1).trans rfl, (blk_cell BK242.out 2).trans rfl, (blk_cell BK242.out 3).trans rfl, (blk_cell BK242.out 4).trans rfl⟩ (fun hHeld => ?_)
                        clear hK K
                        refine norm_ (a' := ?_) ?_ ?_
                        rotate_left
                        ·show Act.put _ (some 123) _ = _
                         simp only [Act.put, List.setIfInBounds_toArray, List.set_cons_zero, List.set_cons_succ, i64_w, i32_w]
                         rfl
                        refine one_ (i := 2) (N := some 121) #[true, true, true, true, true, false, false, false] rfl rfl (one_of HT_.out (by kernel_rfl)) (by decide) (fun K hK => ?_)
                        refine Kd.N_append_rows_step k36 (w0 := w) w.heap.size (by rfl) (.tmp 119) (.tmp 120) 22 36 (.agg #[(.int .u32 0), (.int .i64 0), (.slice none 0 0), (.int .i64 0), (.int .i64 0)]) 56 rfl Try.underlying22 info36 rfl (by decide) (by omega) v269 y268 l0 _ _ _ (fun k_ => ((P0_ k_ ∨ P2_2_ k_) ∨ w.heap.size ≤ k_) ∧ some k_ ≠ (.slice Ao72 t265.length co72 : Value).ownBlock ∧ some k_ ≠ (v275 : Value).ownBlock ∧ k_ ≠ gb242 ∧ k_ ≠ gb255) (fun k_ => ((fun k_ => ((P0_ k_ ∨ P2_2_ k_) ∨ w.heap.size ≤ k_) ∧ some k_ ≠ (.slice Ao72 t265.length co72 : Value).ownBlock ∧ some k_ ≠ (v275 : Value).ownBlock ∧ k_ ≠ gb242 ∧ k_ ≠ gb255)) k_ ∧ some k_ ≠ (v269 : Value).ownBlock) rfl rfl ?aO ?aR (fun _ hk => hk) ?aF ?aB ?aS ?aL ?_
                        (case aR => exact (by skip; exact Kd.V_F (Kd.V_mono (ok' := (fun k_ => ((fun k_ => ((P0_ k_ ∨ P2_2_ k_) ∨ w.heap.size ≤ k_) ∧ some k_ ≠ (.slice Ao72 t265.length co72 : Value).ownBlock ∧ some k_ ≠ (v275 : Value).ownBlock ∧ k_ ≠ gb242 ∧ k_ ≠ gb255)) k_ ∧ some k_ ≠ (v269 : Value).ownBlock)) (HO_0.out) (fun k_ hk => ⟨⟨hk.1.1.1.1, ⟨hk.1.1.2, ⟨hk.2, ⟨hk.1.1.1.2.1, hk.1.1.1.2.2⟩⟩⟩⟩, hk.1.2⟩))))
                        (case aB => exact (by repeat (first | (with_reducible first | exact HB.out | apply below_alloc | apply pw_below_drewN | apply below_drew1 | refine below_set ?_ GE242.out | refine below_set ?_ GE255.out) | exact HB.out)))
                        (case aF => exact (fun k_ hk => ⟨(.inr (Nat.le_trans (below_size (by repeat (first | (with_reducible first | exact HB.out | apply below_alloc | apply pw_below_drewN | apply below_drew1 | refine below_set ?_ GE242.out | refine below_set ?_ GE255.out) | exact HB.out))) hk)), Kd.fresh' (Kd.N_lt (by (with_reducible repeat (first | apply Kd.N_alloc | apply Kd.N_drewN | apply Kd.N_drew)); exact HO267.out)) k_ hk, Kd.fresh' (Kd.N_lt (by (with_reducible repeat (first | apply Kd.N_alloc | apply Kd.N_drewN | apply Kd.N_drew)); exact HO276.out)) k_ hk, Kd.freshB (g := gb242) (o := .cells #[.int .u32 a2_0, .int .i64 a2_1, .slice A2_2 l2_2.length c2_2, .int .i64 a2_3, .int .i64 a2_4] 36 (0, 0)) (by (with_reducible repeat (first | refine blk_drewN ?_ _ | refine blk_drew ?_ | refine blk_alloc ?_ _)); exact BK242.out) k_ hk, Kd.freshB (g := gb255) (o := .cells #[.int .u32 t247, .int .i64 t248, .slice Ao38 t249.length co38, .int .i64 t252, .int .i64 t253] 36 (0, 0)) (by (with_reducible repeat (first | refine blk_drewN ?_ _ | refine blk_drew ?_ | refine blk_alloc ?_ _)); exact BK255.out) k_ hk⟩))
                        (case aO => exact (by (with_reducible repeat (first | apply Kd.N_alloc | apply Kd.N_drewN | apply Kd.N_drew)); exact Kd.N_mono HO270.out (fun _ hk => ⟨hk.1.1, ⟨hk.1.2.1, ⟨hk.2, ⟨hk.1.2.2.1, hk.1.2.2.2⟩⟩⟩⟩)))
                        (case aS => exact (below_size (by repeat (first | (with_reducible first | exact HB.out | apply below_alloc | apply pw_below_drewN | apply below_drew1 | refine below_set ?_ GE242.out | refine below_set ?_ GE255.out) | exact HB.out))))
                        (case aL => have := LMc67.out; omega)
                        intro v272 w78 ho hb hg hat
                        rw [← Ny271.out] at ho
                        have n0_ := Aside0.mk (Kd.V_afterv (ok := (fun k_ => ((P0_ k_ ∨ P2_2_ k_) ∨ w.heap.size ≤ k_) ∧ some k_ ≠ (.slice Ao72 t265.length co72 : Value).ownBlock ∧ some k_ ≠ (v275 : Value).ownBlock ∧ k_ ≠ gb242 ∧ k_ ≠ gb255)) (by (with_reducible repeat (first | apply Kd.V_alloc | apply Kd.V_drewN | apply Kd.V_drew)); exact Kd.V_mono HO_0.out (fun _ hk => ⟨⟨hk.1.1.1.1, ⟨hk.1.1.2, ⟨hk.2, ⟨hk.1.1.1.2.1, hk.1.1.1.2.2⟩⟩⟩⟩, hk.1.2⟩)) hg hat)
                        have n1_ := Aside0.mk (Kd.V_afterv (ok := (fun k_ => ((P0_ k_ ∨ P2_2_ k_) ∨ w.heap.size ≤ k_) ∧ some k_ ≠ (.slice Ao72 t265.length co72 : Value).ownBlock ∧ some k_ ≠ (v275 : Value).ownBlock ∧ k_ ≠ gb242 ∧ k_ ≠ gb255)) (by (with_reducible repeat (first | apply Kd.V_alloc | apply Kd.V_drewN | apply Kd.V_drew)); exact Kd.V_mono HO_243002.out (fun _ hk => ⟨⟨hk.1.1.1.1, ⟨hk.1.1.2, ⟨hk.2, ⟨hk.1.1.1.2.1, hk.1.1.1.2.2⟩⟩⟩⟩, hk.1.2⟩)) hg hat)
                        have n2_ := Aside0.mk (Kd.V_afterv (ok := (fun k_ => ((P0_ k_ ∨ P2_2_ k_) ∨ w.heap.size ≤ k_) ∧ some k_ ≠ (.slice Ao72 t265.length co72 : Value).ownBlock ∧ some k_ ≠ (v275 : Value).ownBlock ∧ k_ ≠ gb242 ∧ k_ ≠ gb255)) (by (with_reducible repeat (first | apply Kd.V_alloc | apply Kd.V_drewN | apply Kd.V_drew)); exact Kd.V_mono HO_256002.out (fun _ hk => ⟨⟨hk.1.1.1.1, ⟨hk.1.1.2, ⟨hk.2, ⟨hk.1.1.1.2.1, hk.1.1.1.2.2⟩⟩⟩⟩, hk.1.2⟩)) hg hat)
                        have n3_ := Aside0.mk (blk_grown (g := gb242) (o := .cells #[.int .u32 a2_0, .int .i64 a2_1, .slice A2_2 l2_2.length c2_2, .int .i64 a2_3, .int .i64 a2_4] 36 (0, 0)) (by (with_reducible repeat (first | refine blk_drewN ?_ _ | refine blk_drew ?_ | refine blk_alloc ?_ _)); exact BK242.out) hg (Kd.N_away HO270.out (fun _ hk => hk.1.2.2.1)))
                        have n4_ := Aside0.mk (blk_grown (g := gb255) (o := .cells #[.int .u32 t247, .int .i64 t248, .slice Ao38 t249.length co38, .int .i64 t252, .int .i64 t253] 36 (0, 0)) (by (with_reducible repeat (first | refine blk_drewN ?_ _ | refine blk_drew ?_ | refine blk_alloc ?_ _)); exact BK255.out) hg (Kd.N_away HO270.out (fun _ hk => hk.1.2.2.2)))
                        have n5_ := Aside0.mk (Kd.N_afterv (ok := (fun k_ => ((P0_ k_ ∨ P2_2_ k_) ∨ w.heap.size ≤ k_) ∧ some k_ ≠ (v275 : Value).ownBlock ∧ k_ ≠ gb242 ∧ k_ ≠ gb255)) (by (with_reducible repeat (first | apply Kd.N_alloc | apply Kd.N_drewN | apply Kd.N_drew)); exact Kd.N_mono HO267.out (fun _ hk => ⟨⟨hk.1.1.1, ⟨hk.2, ⟨hk.1.1.2.1, hk.1.1.2.2⟩⟩⟩, hk.1.2⟩)) hg hat)
                        have n6_ := Aside0.mk (Kd.N_afterv (ok := (fun k_ => ((P0_ k_ ∨ P2_2_ k_) ∨ w.heap.size ≤ k_) ∧ some k_ ≠ (.slice Ao72 t265.length co72 : Value).ownBlock ∧ k_ ≠ gb242 ∧ k_ ≠ gb255)) (by (with_reducible repeat (first | apply Kd.N_alloc | apply Kd.N_drewN | apply Kd.N_drew)); exact Kd.N_mono HO276.out (fun _ hk => ⟨⟨hk.1, ⟨hk.2.1, ⟨hk.2.2.2.1, hk.2.2.2.2⟩⟩⟩, hk.2.2.1⟩)) hg hat)
                        have n7_ := Aside0.mk (hb)
                        have n8_ := Aside0.mk (ho)
                        clear HO_0
                        clear HO_243002
                        clear HO_256002
                        clear BK242
                        clear BK255
                        clear HO267
                        clear HO276
                        clear HB
                        clear HO270
                        have HO_0 := n0_
                        have HO_243002 := n1_
                        have HO_256002 := n2_
                        have BK242 := n3_
                        have BK255 := n4_
                        have HO267 := n5_
                        have HO276 := n6_
                        have HB := n7_
                        have HO273 := n8_
                        clear n0_ n1_ n2_ n3_ n4_ n5_ n6_ n7_ n8_
                        clear ho hb hg hat
                        refine hK.out _ _ ⟨(blk_cell BK242.out 0).trans rfl, (blk_cell BK242.out 1).trans rfl, (blk_cell BK242.out 2).trans rfl, (blk_cell BK242.out 3).trans rfl, (blk_cell BK242.out 4).trans rfl⟩ (fun hHeld => ?_)
                        clear hK K
                        refine norm_ (a' := ?_) ?_ ?_
                        rotate_left
                        ·show Act.put _ (some 121) _ = _
                         simp only [Act.put, List.setIfInBounds_toArray, List.set_cons_zero, List.set_cons_succ, i64_w, i32_w]
                         rfl
                        exact norm_ (by simp only [putAll, Act.put, List.setIfInBounds_toArray, List.set_cons_zero, List.set_cons_succ]) (hCont (v269, v272, v275) _ ⟨hHeld, (by (with_reducible repeat (first | apply Kd.N_alloc | apply Kd.N_drewN | apply Kd.N_drew)); exact Kd.N_mono HO267.out (fun _ hk => ⟨hk.1.1, ⟨hk.2, ⟨hk.1.2.1, ⟨hk.1.2.2.1, hk.1.2.2.2⟩⟩⟩⟩)), (by (with_reducible repeat (first | apply Kd.N_alloc | apply Kd.N_drewN | apply Kd.N_drew)); exact HO273.out), (by (with_reducible repeat (first | apply Kd.N_alloc | apply Kd.N_drewN | apply Kd.N_drew)); exact Kd.N_mono HO276.out (fun _ hk => ⟨hk.1.1, ⟨hk.1.2.1, ⟨hk.2, ⟨hk.1.2.2.1, hk.1.2.2.2⟩⟩⟩⟩)), (by (with_reducible repeat (first | apply Kd.V_alloc | apply Kd.V_drewN | apply Kd.V_drew)); exact Kd.V_mono HO_0.out (fun _ hk => ⟨hk.1.1, ⟨hk.1.2.1, ⟨hk.2, ⟨hk.1.2.2.1, ⟨hk.1.2.2.2.1, hk.1.2.2.2.2⟩⟩⟩⟩⟩)), (by (with_reducible repeat (first | apply Kd.V_alloc | apply Kd.V_drewN | apply Kd.V_drew)); exact Kd.V_mono HO_243002.out (fun _ hk => ⟨hk.1.1, ⟨hk.1.2.1, ⟨hk.2, ⟨hk.1.2.2.1, ⟨hk.1.2.2.2.1, hk.1.2.2.2.2⟩⟩⟩⟩⟩)), (by (with_reducible repeat (first | apply Kd.V_alloc | apply Kd.V_drewN | apply Kd.V_drew)); exact Kd.V_mono HO_256002.out (fun _ hk => ⟨hk.1.1, ⟨hk.1.2.1, ⟨hk.2, ⟨hk.1.2.2.1, ⟨hk.1.2.2.2.1, hk.1.2.2.2.2⟩⟩⟩⟩⟩)), (by (with_reducible repeat (first | refine blk_drewN ?_ _ | refine blk_drew ?_ | refine blk_alloc ?_ _)); exact BK242.out), (by (with_reducible repeat (first | refine blk_drewN ?_ _ | refine blk_drew ?_ | refine blk_alloc ?_ _)); exact BK255.out), (by repeat (first | (with_reducible first | exact HB.out | apply below_alloc | apply pw_below_drewN | apply below_drew1 | refine below_set ?_ GE242.out | refine below_set ?_ GE255.out) | exact HB.out))⟩)
                      ·skip
                       refine Kd.N_lit_step k36 _ 36 ?hg (N' := 123) ?hd (xs := ([(⟨a2_0, a2_1, l2_2, a2_3, a2_4⟩ : S36)] : List (S36))) (inner := [.int .u32 a2_0, .int .i64 a2_1, .slice A2_2 l2_2.length c2_2, .int .i64 a2_3, .int .i64 a2_4]) (ok := (fun k_ => ((P0_ k_ ∨ P2_2_ k_) ∨ w.heap.size ≤ k_) ∧ some k_ ≠ (.slice Ao72 t265.length co72 : Value).ownBlock ∧ k_ ≠ gb242 ∧ k_ ≠ gb255)) (okp := (fun k_ => ((P0_ k_ ∨ P2_2_ k_) ∨ w.heap.size ≤ k_) ∧ some k_ ≠ (.slice Ao72 t265.length co72 : Value).ownBlock ∧ k_ ≠ gb242 ∧ k_ ≠ gb255)) ?hr ?hp (fun _ hk => hk) ((show ∀ k_, w73.heap.size ≤ k_ → (fun k_ => ((P0_ k_ ∨ P2_2_ k_) ∨ w.heap.size ≤ k_) ∧ some k_ ≠ (.slice Ao72 t265.length co72 : Value).ownBlock ∧ k_ ≠ gb242 ∧ k_ ≠ gb255) k_ from fun k_ hk => ⟨(.inr (Nat.le_trans (below_size (by repeat (first | (with_reducible first | exact HB.out | apply below_alloc | apply pw_below_drewN | apply below_drew1 | refine below_set ?_ GE242.out | refine below_set ?_ GE255.out) | exact HB.out))) hk)), Kd.fresh' (Kd.N_lt (by (with_reducible repeat (first | apply Kd.N_alloc | apply Kd.N_drewN | apply Kd.N_drew)); exact HO267.out)) k_ hk, Kd.freshB (g := gb242) (o := .cells #[.int .u32 a2_0, .int .i64 a2_1, .slice A2_2 l2_2.length c2_2, .int .i64 a2_3, .int .i64 a2_4] 36 (0, 0)) (by (with_reducible repeat (first | refine blk_drewN ?_ _ | refine blk_drew ?_ | refine blk_alloc ?_ _)); exact BK242.out) k_ hk, Kd.freshB (g := gb255) (o := .cells #[.int .u32 t247, .int .i64 t248, .slice Ao38 t249.length co38, .int .i64 t252, .int .i64 t253] 36 (0, 0)) (by (with_reducible repeat (first | refine blk_drewN ?_ _ | refine blk_drew ?_ | refine blk_alloc ?_ _)); exact BK255.out) k_ hk⟩) _ (Nat.le_refl _)) (Below.refl _ _) (Nat.le_refl _) (by simp) ?_; (case hd => rfl); (case hg => rfl); (case hr => first | (go_simp; done) | (go_simp; rfl)); (case hp => exact (Reps.c5 (show Kd.FK k36 _ _ (⟨a2_0, a2_1, l2_2, a2_3, a2_4⟩ : S36) [.int .u32 a2_0, .int .i64 a2_1, .slice A2_2 l2_2.length c2_2, .int .i64 a2_3, .int .i64 a2_4] from (k36_mkF _ _ (⟨a2_0, a2_1, l2_2, a2_3, a2_4⟩ : S36) (Kd.V_reads' (Kd.V_mono (ok' := (fun k_ => ((P0_ k_ ∨ P2_2_ k_) ∨ w.heap.size ≤ k_) ∧ some k_ ≠ (.slice Ao72 t265.length co72 : Value).ownBlock ∧ k_ ≠ gb242 ∧ k_ ≠ gb255)) (HO_243002.out) (fun k_ hk => ⟨hk.1.1, ⟨hk.2, ⟨hk.1.2.1, hk.1.2.2⟩⟩⟩))).2.1 (Kd.V_F (Kd.V_mono (ok' := (fun k_ => ((P0_ k_ ∨ P2_2_ k_) ∨ w.heap.size ≤ k_) ∧ some k_ ≠ (.slice Ao72 t265.length co72 : Value).ownBlock ∧ k_ ≠ gb242 ∧ k_ ≠ gb255)) (HO_243002.out) (fun k_ hk => ⟨hk.1.1, ⟨hk.2, ⟨hk.1.2.1, hk.1.2.2⟩⟩⟩))))) (Reps.none _ _)))
                       intro v275 w74 ho75 hb hg_ hnew_
                       clear hg_ hnew_
                       (first | rw [← Ny274.out] at ho75 | (simp only [Int.reduceToNat] at ho75; rw [← Ny274.out] at ho75))
                       have n0_ := Aside0.mk (Kd.V_elder' (by (with_reducible repeat (first | apply Kd.V_alloc | apply Kd.V_drewN | apply Kd.V_drew)); exact HO_0.out) (Kd.N_base ho75) hb)
                       have n1_ := Aside0.mk (Kd.V_elder' (by (with_reducible repeat (first | apply Kd.V_alloc | apply Kd.V_drewN | apply Kd.V_drew)); exact HO_243002.out) (Kd.N_base ho75) hb)
                       have n2_ := Aside0.mk (Kd.V_elder' (by (with_reducible repeat (first | apply Kd.V_alloc | apply Kd.V_drewN | apply Kd.V_drew)); exact HO_256002.out) (Kd.N_base ho75) hb)
                       have n3_ := Aside0.mk (Kd.N_elder' (by (with_reducible repeat (first | apply Kd.N_alloc | apply Kd.N_drewN | apply Kd.N_drew)); exact HO267.out) (Kd.N_base ho75) hb)
                       have n4_ := Aside0.mk (Kd.N_lower ho75 (below_size (by repeat (first | (with_reducible first | exact HB.out | apply below_alloc | apply pw_below_drewN | apply below_drew1 | refine below_set ?_ GE242.out | refine below_set ?_ GE255.out) | exact HB.out))))
                       have n5_ := Aside0.mk (blk_below (g := gb242) (o := .cells #[.int .u32 a2_0, .int .i64 a2_1, .slice A2_2 l2_2.length c2_2, .int .i64 a2_3, .int .i64 a2_4] 36 (0, 0)) (by (with_reducible repeat (first | refine blk_drewN ?_ _ | refine blk_drew ?_ | refine blk_alloc ?_ _)); exact BK242.out) hb)
                       have n6_ := Aside0.mk (blk_below (g := gb255) (o := .cells #[.int .u32 t247, .int .i64 t248, .slice Ao38 t249.length co38, .int .i64 t252, .int .i64 t253] 36 (0, 0)) (by (with_reducible repeat (first | refine blk_drewN ?_ _ | refine blk_drew ?_ | refine blk_alloc ?_ _)); exact BK255.out) hb)
                       have n7_ := Aside0.mk (below_step (by repeat (first | (with_reducible first | exact HB.out | apply below_alloc | apply pw_below_drewN | apply below_drew1 | refine below_set ?_ GE242.out | refine below_set ?_ GE255.out) | exact HB.out)) hb)
                       clear HO_0
                       clear HO_243002
                       clear HO_256002
                       clear HO267
                       clear BK242
                       clear BK255
                       clear HB
                       have HO_0 := n0_
                       have HO_243002 := n1_
                       have HO_256002 := n2_
                       have HO267 := n3_
                       have HO276 := n4_
                       have BK242 := n5_
                       have BK255 := n6_
                       have HB := n7_
                       clear n0_ n1_ n2_ n3_ n4_ n5_ n6_ n7_
                       clear hb ho75
                       refine hK.out _ _ ⟨(blk_cell BK242.out 0).trans rfl, (blk_cell BK242.out 1).trans rfl, (blk_cell BK242.out 2).trans rfl, (blk_cell BK242.out 3).trans rfl, (blk_cell BK242.out 4).trans rfl⟩ (fun hHeld => ?_)
                       clear hK K
                       refine norm_ (a' := ?_) ?_ ?_
                       rotate_left
                       ·show Act.put _ (some 123) _ = _
                        simp only [Act.put, List.setIfInBounds_toArray, List.set_cons_zero, List.set_cons_succ, i64_w, i32_w]
                        rfl
                       refine one_ (i := 0) (N := some 119) #[true, true, false, true, true, false, false, false] rfl rfl (one_of HT_.out (by kernel_rfl)) (by decide) (fun K hK => ?_)
                       refine Kd.N_lit_step k36 _ 36 ?hg (N' := 119) ?hd (xs := ([] : List (S36))) (inner := []) (ok := (fun k_ => ((P0_ k_ ∨ P2_2_ k_) ∨ w.heap.size ≤ k_) ∧ some k_ ≠ (.slice Ao72 t265.length co72 : Value).ownBlock ∧ some k_ ≠ (v275 : Value).ownBlock ∧ k_ ≠ gb242 ∧ k_ ≠ gb255)) (okp := (fun k_ => ((P0_ k_ ∨ P2_2_ k_) ∨ w.heap.size ≤ k_) ∧ some k_ ≠ (.slice Ao72 t265.length co72 : Value).ownBlock ∧ some k_ ≠ (v275 : Value).ownBlock ∧ k_ ≠ gb242 ∧ k_ ≠ gb255)) ?hr ?hp (fun _ hk => hk) ((show ∀ k_, w74.heap.size ≤ k_ → (fun k_ => ((P0_ k_ ∨ P2_2_ k_) ∨ w.heap.size ≤ k_) ∧ some k_ ≠ (.slice Ao72 t265.length co72 : Value).ownBlock ∧ some k_ ≠ (v275 : Value).ownBlock ∧ k_ ≠ gb242 ∧ k_ ≠ gb255) k_ from fun k_ hk => ⟨(.inr (Nat.le_trans (below_size (by repeat (first | (with_reducible first | exact HB.out | apply below_alloc | apply pw_below_drewN | apply below_drew1 | refine below_set ?_ GE242.out | refine below_set ?_ GE255.out) | exact HB.out))) hk)), Kd.fresh' (Kd.N_lt (by (with_reducible repeat (first | apply Kd.N_alloc | apply Kd.N_drewN | apply Kd.N_drew)); exact HO267.out)) k_ hk, Kd.fresh' (Kd.N_lt (by (with_reducible repeat (first | apply Kd.N_alloc | apply Kd.N_drewN | apply Kd.N_drew)); exact HO276.out)) k_ hk, Kd.freshB (g := gb242) (o := .cells #[.int .u32 a2_0, .int .i64 a2_1, .slice A2_2 l2_2.length c2_2, .int .i64 a2_3, .int .i64 a2_4] 36 (0, 0)) (by (with_reducible repeat (first | refine blk_drewN ?_ _ | refine blk_drew ?_ | refine blk_alloc ?_ _)); exact BK242.out) k_ hk, Kd.freshB (g := gb255) (o := .cells #[.int .u32 t247, .int .i64 t248, .slice Ao38 t249.length co38, .int .i64 t252, .int .i64 t253] 36 (0, 0)) (by (with_reducible repeat (first | refine blk_drewN ?_ _ | refine blk_drew ?_ | refine blk_alloc ?_ _)); exact BK255.out) k_ hk⟩) _ (Nat.le_refl _)) (Below.refl _ _) (Nat.le_refl _) (by simp) ?_; (case hd => rfl); (case hg => rfl); (case hr => first | (go_simp; done) | (go_simp; rfl)); (case hp => exact (Reps.none _ _))
                       intro v269 w76 ho77 hb hg_ hnew_
                       clear hg_ hnew_
                       (first | rw [← Ny268.out] at ho77 | (simp only [Int.reduceToNat] at ho77; rw [← Ny268.out] at ho77))
                       have n0_ := Aside0.mk (Kd.V_elder' (by (with_reducible repeat (first | apply Kd.V_alloc | apply Kd.V_drewN | apply Kd.V_drew)); exact HO_0.out) (Kd.N_base ho77) hb)
                       have n1_ := Aside0.mk (Kd.V_elder' (by (with_reducible repeat (first | apply Kd.V_alloc | apply Kd.V_drewN | apply Kd.V_drew)); exact HO_243002.out) (Kd.N_base ho77) hb)
                       have n2_ := Aside0.mk (Kd.V_elder' (by (with_reducible repeat (first | apply Kd.V_alloc | apply Kd.V_drewN | apply Kd.V_drew)); exact HO_256002.out) (Kd.N_base ho77) hb)
                       have n3_ := Aside0.mk (Kd.N_elder' (by (with_reducible repeat (first | apply Kd.N_alloc | apply Kd.N_drewN | apply Kd.N_drew)); exact HO267.out) (Kd.N_base ho77) hb)
                       have n4_ := Aside0.mk (Kd.N_elder' (by (with_reducible repeat (first | apply Kd.N_alloc | apply Kd.N_drewN | apply Kd.N_drew)); exact HO276.out) (Kd.N_base ho77) hb)
                       have n5_ := Aside0.mk (Kd.N_lower ho77 (below_size (by repeat (first | (with_reducible first | exact HB.out | apply below_alloc | apply pw_below_drewN | apply below_drew1 | refine below_set ?_ GE242.out | refine below_set ?_ GE255.out) | exact HB.out))))
                       have n6_ := Aside0.mk (blk_below (g := gb242) (o := .cells #[.int .u32 a2_0, .int .i64 a2_1, .slice A2_2 l2_2.length c2_2, .int .i64 a2_3, .int .i64 a2_4] 36 (0, 0)) (by (with_reducible repeat (first | refine blk_drewN ?_ _ | refine blk_drew ?_ | refine blk_alloc ?_ _)); exact BK242.out) hb)
                       have n7_ := Aside0.mk (blk_below (g := gb255) (o := .cells #[.int .u32 t247, .int .i64 t248, .slice Ao38 t249.length co38, .int .i64 t252, .int .i64 t253] 36 (0, 0)) (by (with_reducible repeat (first | refine blk_drewN ?_ _ | refine blk_drew ?_ | refine blk_alloc ?_ _)); exact BK255.out) hb)
                       have n8_ := Aside0.mk (below_step (by repeat (first | (with_reducible first | exact HB.out | apply below_alloc | apply pw_below_drewN | apply below_drew1 | refine below_set ?_ GE242.out | refine below_set ?_ GE255.out) | exact HB.out)) hb)
                       clear HO_0
                       clear HO_243002
                       clear HO_256002
                       clear HO267
                       clear HO276
                       clear BK242
                       clear BK255
                       clear HB
                       have HO_0 := n0_
                       have HO_243002 := n1_
                       have HO_256002 := n2_
                       have HO267 := n3_
                       have HO276 := n4_
                       have HO270 := n5_
                       have BK242 := n6_
                       have BK255 := n7_
                       have HB := n8_
                       clear n0_ n1_ n2_ n3_ n4_ n5_ n6_ n7_ n8_
                       clear hb ho77
                       refine hK.out _ _ ⟨(blk_cell BK242.out 0).trans rfl, (blk_cell BK242.out 1).trans rfl, (blk_cell BK242.out 2).trans rfl, (blk_cell BK242.out 3).trans rfl, (blk_cell BK242.out 4).trans rfl⟩ (fun hHeld => ?_)
                       clear hK K
                       refine norm_ (a' := ?_) ?_ ?_
                       rotate_left
                       ·show Act.put _ (some 119) _ = _
                        simp only [Act.put, List.setIfInBounds_toArray, List.set_cons_zero, List.set_cons_succ, i64_w, i32_w]
                        rfl
                       refine one_ (i := 2) (N := some 121) #[true, true, true, true, true, false, false, false] rfl rfl (one_of HT_.out (by kernel_rfl)) (by decide) (fun K hK => ?_)
                       refine Kd.N_append_rows_step k36 (w0 := w) w.heap.size (by rfl) (.tmp 119) (.tmp 120) 22 36 (.agg #[(.int .u32 0), (.int .i64 0), (.slice none 0 0), (.int .i64 0), (.int .i64 0)]) 56 rfl Try.underlying22 info36 rfl (by decide) (by omega) v269 y268 l0 _ _ _ (fun k_ => ((P0_ k_ ∨ P2_2_ k_) ∨ w.heap.size ≤ k_) ∧ some k_ ≠ (.slice Ao72 t265.length co72 : Value).ownBlock ∧ some k_ ≠ (v275 : Value).ownBlock ∧ k_ ≠ gb242 ∧ k_ ≠ gb255) (fun k_ => ((fun k_ => ((P0_ k_ ∨ P2_2_ k_) ∨ w.heap.size ≤ k_) ∧ some k_ ≠ (.slice Ao72 t265.length co72 : Value).ownBlock ∧ some k_ ≠ (v275 : Value).ownBlock ∧ k_ ≠ gb242 ∧ k_ ≠ gb255)) k_ ∧ some k_ ≠ (v269 : Value).ownBlock) rfl rfl ?aO ?aR (fun _ hk => hk) ?aF ?aB ?aS ?aL ?_
                       (case aR => exact (by skip; exact Kd.V_F (Kd.V_mono (ok' := (fun k_ => ((fun k_ => ((P0_ k_ ∨ P2_2_ k_) ∨ w.heap.size ≤ k_) ∧ some k_ ≠ (.slice Ao72 t265.length co72 : Value).ownBlock ∧ some k_ ≠ (v275 : Value).ownBlock ∧ k_ ≠ gb242 ∧ k_ ≠ gb255)) k_ ∧ some k_ ≠ (v269 : Value).ownBlock)) (HO_0.out) (fun k_ hk => ⟨⟨hk.1.1.1.1, ⟨hk.1.1.2, ⟨hk.1.2, ⟨hk.1.1.1.2.1, hk.1.1.1.2.2⟩⟩⟩⟩, hk.2⟩))))
                       (case aB => exact (by repeat (first | (with_reducible first | exact HB.out | apply below_alloc | apply pw_below_drewN | apply below_drew1 | refine below_set ?_ GE242.out | refine below_set ?_ GE255.out) | exact HB.out)))
                       (case aF => exact (fun k_ hk => ⟨(.inr (Nat.le_trans (below_size (by repeat (first | (with_reducible first | exact HB.out | apply below_alloc | apply pw_below_drewN | apply below_drew1 | refine below_set ?_ GE242.out | refine below_set ?_ GE255.out) | exact HB.out))) hk)), Kd.fresh' (Kd.N_lt (by (with_reducible repeat (first | apply Kd.N_alloc | apply Kd.N_drewN | apply Kd.N_drew)); exact HO267.out)) k_ hk, Kd.fresh' (Kd.N_lt (by (with_reducible repeat (first | apply Kd.N_alloc | apply Kd.N_drewN | apply Kd.N_drew)); exact HO276.out)) k_ hk, Kd.freshB (g := gb242) (o := .cells #[.int .u32 a2_0, .int .i64 a2_1, .slice A2_2 l2_2.length c2_2, .int .i64 a2_3, .int .i64 a2_4] 36 (0, 0)) (by (with_reducible repeat (first | refine blk_drewN ?_ _ | refine blk_drew ?_ | refine blk_alloc ?_ _)); exact BK242.out) k_ hk, Kd.freshB (g := gb255) (o := .cells #[.int .u32 t247, .int .i64 t248, .slice Ao38 t249.length co38, .int .i64 t252, .int .i64 t253] 36 (0, 0)) (by (with_reducible repeat (first | refine blk_drewN ?_ _ | refine blk_drew ?_ | refine blk_alloc ?_ _)); exact BK255.out) k_ hk⟩))
                       (case aO => exact (by (with_reducible repeat (first | apply Kd.N_alloc | apply Kd.N_drewN | apply Kd.N_drew)); exact HO270.out))
                       (case aS => exact (below_size (by repeat (first | (with_reducible first | exact HB.out | apply below_alloc | apply pw_below_drewN | apply below_drew1 | refine below_set ?_ GE242.out | refine below_set ?_ GE255.out) | exact HB.out))))
                       (case aL => have := LMc67.out; omega)
                       intro v272 w78 ho hb hg hat
                       rw [← Ny271.out] at ho
                       have n0_ := Aside0.mk (Kd.V_afterv (ok := (fun k_ => ((P0_ k_ ∨ P2_2_ k_) ∨ w.heap.size ≤ k_) ∧ some k_ ≠ (.slice Ao72 t265.length co72 : Value).ownBlock ∧ some k_ ≠ (v275 : Value).ownBlock ∧ k_ ≠ gb242 ∧ k_ ≠ gb255)) (by (with_reducible repeat (first | apply Kd.V_alloc | apply Kd.V_drewN | apply Kd.V_drew)); exact Kd.V_mono HO_0.out (fun _ hk => ⟨⟨hk.1.1.1.1, ⟨hk.1.1.2, ⟨hk.1.2, ⟨hk.1.1.1.2.1, hk.1.1.1.2.2⟩⟩⟩⟩, hk.2⟩)) hg hat)
                       have n1_ := Aside0.mk (Kd.V_afterv (ok := (fun k_ => ((P0_ k_ ∨ P2_2_ k_) ∨ w.heap.size ≤ k_) ∧ some k_ ≠ (.slice Ao72 t265.length co72 : Value).ownBlock ∧ some k_ ≠ (v275 : Value).ownBlock ∧ k_ ≠ gb242 ∧ k_ ≠ gb255)) (by (with_reducible repeat (first | apply Kd.V_alloc | apply Kd.V_drewN | apply Kd.V_drew)); exact Kd.V_mono HO_243002.out (fun _ hk => ⟨⟨hk.1.1.1.1, ⟨hk.1.1.2, ⟨hk.1.2, ⟨hk.1.1.1.2.1, hk.1.1.1.2.2⟩⟩⟩⟩, hk.2⟩)) hg hat)
                       have n2_ := Aside0.mk (Kd.V_afterv (ok := (fun k_ => ((P0_ k_ ∨ P2_2_ k_) ∨ w.heap.size ≤ k_) ∧ some k_ ≠ (.slice Ao72 t265.length co72 : Value).ownBlock ∧ some k_ ≠ (v275 : Value).ownBlock ∧ k_ ≠ gb242 ∧ k_ ≠ gb255)) (by (with_reducible repeat (first | apply Kd.V_alloc | apply Kd.V_drewN | apply Kd.V_drew)); exact Kd.V_mono HO_256002.out (fun _ hk => ⟨⟨hk.1.1.1.1, ⟨hk.1.1.2, ⟨hk.1.2, ⟨hk.1.1.1.2.1, hk.1.1.1.2.2⟩⟩⟩⟩, hk.2⟩)) hg hat)
                       have n3_ := Aside0.mk (blk_grown (g := gb242) (o := .cells #[.int .u32 a2_0, .int .i64 a2_1, .slice A2_2 l2_2.length c2_2, .int .i64 a2_3, .int .i64 a2_4] 36 (0, 0)) (by (with_reducible repeat (first | refine blk_drewN ?_ _ | refine blk_drew ?_ | refine blk_alloc ?_ _)); exact BK242.out) hg (Kd.N_away HO270.out (fun _ hk => hk.2.2.2.1)))
                       have n4_ := Aside0.mk (blk_grown (g := gb255) (o := .cells #[.int .u32 t247, .int .i64 t248, .slice Ao38 t249.length co38, .int .i64 t252, .int .i64 t253] 36 (0, 0)) (by (with_reducible repeat (first | refine blk_drewN ?_ _ | refine blk_drew ?_ | refine blk_alloc ?_ _)); exact BK255.out) hg (Kd.N_away HO270.out (fun _ hk => hk.2.2.2.2)))
                       have n5_ := Aside0.mk (Kd.N_afterv (ok := (fun k_ => ((P0_ k_ ∨ P2_2_ k_) ∨ w.heap.size ≤ k_) ∧ some k_ ≠ (v275 : Value).ownBlock ∧ k_ ≠ gb242 ∧ k_ ≠ gb255)) (by (with_reducible repeat (first | apply Kd.N_alloc | apply Kd.N_drewN | apply Kd.N_drew)); exact Kd.N_mono HO267.out (fun _ hk => ⟨⟨hk.1.1.1, ⟨hk.1.2, ⟨hk.1.1.2.1, hk.1.1.2.2⟩⟩⟩, hk.2⟩)) hg hat)
                       have n6_ := Aside0.mk (Kd.N_afterv (ok := (fun k_ => ((P0_ k_ ∨ P2_2_ k_) ∨ w.heap.size ≤ k_) ∧ some k_ ≠ (.slice Ao72 t265.length co72 : Value).ownBlock ∧ k_ ≠ gb242 ∧ k_ ≠ gb255)) (by (with_reducible repeat (first | apply Kd.N_alloc | apply Kd.N_drewN | apply Kd.N_drew)); exact HO276.out) hg hat)
                       have n7_ := Aside0.mk (hb)
                       have n8_ := Aside0.mk (ho)
                       clear HO_0
                       clear HO_243002
                       clear HO_256002
                       clear BK242
                       clear BK255
                       clear HO267
                       clear HO276
                       clear HB
                       clear HO270
                       have HO_0 := n0_
                       have HO_243002 := n1_
                       have HO_256002 := n2_
                       have BK242 := n3_
                       have BK255 := n4_
                       have HO267 := n5_
                       have HO276 := n6_
                       have HB := n7_
                       have HO273 := n8_
                       clear n0_ n1_ n2_ n3_ n4_ n5_ n6_ n7_ n8_
                       clear ho hb hg hat
                       refine hK.out _ _ ⟨(blk_cell BK242.out 0).trans rfl, (blk_cell BK242.out 1).trans rfl, (blk_cell BK242.out 2).trans rfl, (blk_cell BK242.out 3).trans rfl, (blk_cell BK242.out 4).trans rfl⟩ (fun hHeld => ?_)
                       clear hK K
                       refine norm_ (a' := ?_) ?_ ?_
                       rotate_left
                       ·show Act.put _ (some 121) _ = _
                        simp only [Act.put, List.setIfInBounds_toArray, List.set_cons_zero, List.set_cons_succ, i64_w, i32_w]
                        rfl
                       exact norm_ (by simp only [putAll, Act.put, List.setIfInBounds_toArray, List.set_cons_zero, List.set_cons_succ]) (hCont (v269, v272, v275) _ ⟨hHeld, (by (with_reducible repeat (first | apply Kd.N_alloc | apply Kd.N_drewN | apply Kd.N_drew)); exact Kd.N_mono HO267.out (fun _ hk => ⟨hk.1.1, ⟨hk.2, ⟨hk.1.2.1, ⟨hk.1.2.2.1, hk.1.2.2.2⟩⟩⟩⟩)), (by (with_reducible repeat (first | apply Kd.N_alloc | apply Kd.N_drewN | apply Kd.N_drew)); exact HO273.out), (by (with_reducible repeat (first | apply Kd.N_alloc | apply Kd.N_drewN | apply Kd.N_drew)); exact Kd.N_mono HO276.out (fun _ hk => ⟨hk.1.1, ⟨hk.1.2.1, ⟨hk.2, ⟨hk.1.2.2.1, hk.1.2.2.2⟩⟩⟩⟩)), (by (with_reducible repeat (first | apply Kd.V_alloc | apply Kd.V_drewN | apply Kd.V_drew)); exact Kd.V_mono HO_0.out (fun _ hk => ⟨hk.1.1, ⟨hk.1.2.1, ⟨hk.2, ⟨hk.1.2.2.1, ⟨hk.1.2.2.2.1, hk.1.2.2.2.2⟩⟩⟩⟩⟩)), (by (with_reducible repeat (first | apply Kd.V_alloc | apply Kd.V_drewN | apply Kd.V_drew)); exact Kd.V_mono HO_243002.out (fun _ hk => ⟨hk.1.1, ⟨hk.1.2.1, ⟨hk.2, ⟨hk.1.2.2.1, ⟨hk.1.2.2.2.1, hk.1.2.2.2.2⟩⟩⟩⟩⟩)), (by (with_reducible repeat (first | apply Kd.V_alloc | apply Kd.V_drewN | apply Kd.V_drew)); exact Kd.V_mono HO_256002.out (fun _ hk => ⟨hk.1.1, ⟨hk.1.2.1, ⟨hk.2, ⟨hk.1.2.2.1, ⟨hk.1.2.2.2.1, hk.1.2.2.2.2⟩⟩⟩⟩⟩)), (by (with_reducible repeat (first | refine blk_drewN ?_ _ | refine blk_drew ?_ | refine blk_alloc ?_ _)); exact BK242.out), (by (with_reducible repeat (first | refine blk_drewN ?_ _ | refine blk_drew ?_ | refine blk_alloc ?_ _)); exact BK255.out), (by repeat (first | (with_reducible first | exact HB.out | apply below_alloc | apply pw_below_drewN | apply below_drew1 | refine below_set ?_ GE242.out | refine below_set ?_ GE255.out) | exact HB.out))⟩)
                     rintro ⟨v269, v272, v275⟩ w79 ⟨hS_, h0_, h1_, h2_, h3_, h4_, h5_, h6_, h7_, h8_⟩
                     have n0_ : Aside0 (Kd.N k36 36 w79 w.heap.size (fun k_ => ((P0_ k_ ∨ P2_2_ k_) ∨ w.heap.size ≤ k_) ∧ some k_ ≠ (v272 : Value).ownBlock ∧ some k_ ≠ (v275 : Value).ownBlock ∧ k_ ≠ gb242 ∧ k_ ≠ gb255) (.slice Ao72 t265.length co72) t265) := ⟨h0_⟩
                     have n1_ : Aside0 (Kd.N k36 36 w79 w.heap.size (fun k_ => ((P0_ k_ ∨ P2_2_ k_) ∨ w.heap.size ≤ k_) ∧ some k_ ≠ (.slice Ao72 t265.length co72 : Value).ownBlock ∧ some k_ ≠ (v275 : Value).ownBlock ∧ k_ ≠ gb242 ∧ k_ ≠ gb255) v272 y271) := ⟨h1_⟩
                     have n2_ : Aside0 (Kd.N k36 36 w79 w.heap.size (fun k_ => ((P0_ k_ ∨ P2_2_ k_) ∨ w.heap.size ≤ k_) ∧ some k_ ≠ (.slice Ao72 t265.length co72 : Value).ownBlock ∧ some k_ ≠ (v272 : Value).ownBlock ∧ k_ ≠ gb242 ∧ k_ ≠ gb255) v275 y274) := ⟨h2_⟩
                     have n3_ : Aside0 (Kd.V k36 36 w79 w.heap.size (fun k_ => ((P0_ k_ ∨ P2_2_ k_) ∨ w.heap.size ≤ k_) ∧ some k_ ≠ (.slice Ao72 t265.length co72 : Value).ownBlock ∧ some k_ ≠ (v272 : Value).ownBlock ∧ some k_ ≠ (v275 : Value).ownBlock ∧ k_ ≠ gb242 ∧ k_ ≠ gb255) (.slice A0 l0.length c0) l0) := ⟨h3_⟩
                     have n4_ : Aside0 (Kd.V (Kd.int .u32) 33 w79 w.heap.size (fun k_ => ((P0_ k_ ∨ P2_2_ k_) ∨ w.heap.size ≤ k_) ∧ some k_ ≠ (.slice Ao72 t265.length co72 : Value).ownBlock ∧ some k_ ≠ (v272 : Value).ownBlock ∧ some k_ ≠ (v275 : Value).ownBlock ∧ k_ ≠ gb242 ∧ k_ ≠ gb255) (.slice A2_2 l2_2.length c2_2) l2_2) := ⟨h4_⟩
                     have n5_ : Aside0 (Kd.V (Kd.int .u32) 33 w79 w.heap.size (fun k_ => ((P0_ k_ ∨ P2_2_ k_) ∨ w.heap.size ≤ k_) ∧ some k_ ≠ (.slice Ao72 t265.length co72 : Value).ownBlock ∧ some k_ ≠ (v272 : Value).ownBlock ∧ some k_ ≠ (v275 : Value).ownBlock ∧ k_ ≠ gb242 ∧ k_ ≠ gb255) (.slice Ao38 t249.length co38) t249) := ⟨h5_⟩
                     have n6_ : Aside0 (w79.heap[gb242]? = some (.cells #[.int .u32 a2_0, .int .i64 a2_1, .slice A2_2 l2_2.length c2_2, .int .i64 a2_3, .int .i64 a2_4] 36 (0, 0))) := ⟨h6_⟩
                     have n7_ : Aside0 (w79.heap[gb255]? = some (.cells #[.int .u32 t247, .int .i64 t248, .slice Ao38 t249.length co38, .int .i64 t252, .int .i64 t253] 36 (0, 0))) := ⟨h7_⟩
                     have n8_ : Aside0 (Below w.heap.size w w79) := ⟨h8_⟩
                     clear HO_0
                     clear HO_243002
                     clear HO_256002
                     clear HO267
                     clear BK242
                     clear BK255
                     clear HB
                     clear h0_ h1_ h2_ h3_ h4_ h5_ h6_ h7_ h8_
                     have HO267 := n0_
                     have HO273 := n1_
                     have HO276 := n2_
                     have HO_0 := n3_
                     have HO_243002 := n4_
                     have HO_256002 := n5_
                     have BK242 := n6_
                     have BK255 := n7_
                     have HB := n8_
                     clear n0_ n1_ n2_ n3_ n4_ n5_ n6_ n7_ n8_
                     have hHeld : w79.cell? ⟨gb242, 0, none⟩ = some (.int .u32 a2_0) ∧ w79.cell? ⟨gb242, 1, none⟩ = some (.int .i64 a2_1) ∧ w79.cell? ⟨gb242, 2, none⟩ = some (.slice A2_2 l2_2.length c2_2) ∧ w79.cell? ⟨gb242, 3, none⟩ = some (.int .i64 a2_3) ∧ w79.cell? ⟨gb242, 4, none⟩ = some (.int .i64 a2_4) := hS_
                     obtain ⟨Ao81, co81, eo81⟩ := Kd.N_slice HO276.out
                     (first | subst eo81 | (injection eo81 with f1_ f2_ f3_; have f4_ := f1_.symm; have f5_ := f3_.symm; clear f1_ f2_ f3_; subst f4_; subst f5_))
                     refine norm_ (a' := ?_) ?_ ?_
                     rotate_left
                     ·simp only [putAll, Act.put, List.setIfInBounds_toArray, List.set_cons_zero, List.set_cons_succ]
                      rfl
                     refine one_ (i := 5) (N := some 124) #[true, true, true, true, true, true, false, false] rfl rfl (one_of HT_.out (by kernel_rfl)) (by decide) (fun K hK => ?_)
                     refine Kd.N_append_rows_step k36 (w0 := w) w.heap.size (by rfl) (.tmp 121) (.tmp 123) 22 36 (.agg #[(.int .u32 0), (.int .i64 0), (.slice none 0 0), (.int .i64 0), (.int .i64 0)]) 56 rfl Try.underlying22 info36 rfl (by decide) (by omega) v272 y271 y274 _ _ _ (fun k_ => ((P0_ k_ ∨ P2_2_ k_) ∨ w.heap.size ≤ k_) ∧ some k_ ≠ (.slice Ao72 t265.length co72 : Value).ownBlock ∧ k_ ≠ gb242 ∧ k_ ≠ gb255) (fun k_ => ((fun k_ => ((P0_ k_ ∨ P2_2_ k_) ∨ w.heap.size ≤ k_) ∧ some k_ ≠ (.slice Ao72 t265.length co72 : Value).ownBlock ∧ k_ ≠ gb242 ∧ k_ ≠ gb255)) k_ ∧ some k_ ≠ (v272 : Value).ownBlock) rfl rfl ?aO ?aR (fun _ hk => hk) ?aF ?aB ?aS ?aL ?_
                     (case aR => exact (by skip; exact Kd.N_F (Kd.N_mono (ok' := (fun k_ => ((fun k_ => ((P0_ k_ ∨ P2_2_ k_) ∨ w.heap.size ≤ k_) ∧ some k_ ≠ (.slice Ao72 t265.length co72 : Value).ownBlock ∧ k_ ≠ gb242 ∧ k_ ≠ gb255)) k_ ∧ some k_ ≠ (v272 : Value).ownBlock)) (HO276.out) (fun k_ hk => ⟨⟨hk.1, ⟨hk.2.1, ⟨hk.2.2.2.1, hk.2.2.2.2⟩⟩⟩, hk.2.2.1⟩))))
                     (case aB => exact (by repeat (first | (with_reducible first | exact HB.out | apply below_alloc | apply pw_below_drewN | apply below_drew1 | refine below_set ?_ GE242.out | refine below_set ?_ GE255.out) | exact HB.out)))
                     (case aF => exact (fun k_ hk => ⟨(.inr (Nat.le_trans (below_size (by repeat (first | (with_reducible first | exact HB.out | apply below_alloc | apply pw_below_drewN | apply below_drew1 | refine below_set ?_ GE242.out | refine below_set ?_ GE255.out) | exact HB.out))) hk)), Kd.fresh' (Kd.N_lt (by (with_reducible repeat (first | apply Kd.N_alloc | apply Kd.N_drewN | apply Kd.N_drew)); exact HO267.out)) k_ hk, Kd.freshB (g := gb242) (o := .cells #[.int .u32 a2_0, .int .i64 a2_1, .slice A2_2 l2_2.length c2_2, .int .i64 a2_3, .int .i64 a2_4] 36 (0, 0)) (by (with_reducible repeat (first | refine blk_drewN ?_ _ | refine blk_drew ?_ | refine blk_alloc ?_ _)); exact BK242.out) k_ hk, Kd.freshB (g := gb255) (o := .cells #[.int .u32 t247, .int .i64 t248, .slice Ao38 t249.length co38, .int .i64 t252, .int .i64 t253] 36 (0, 0)) (by (with_reducible repeat (first | refine blk_drewN ?_ _ | refine blk_drew ?_ | refine blk_alloc ?_ _)); exact BK255.out) k_ hk⟩))
                     (case aO => exact (by (with_reducible repeat (first | apply Kd.N_alloc | apply Kd.N_drewN | apply Kd.N_drew)); exact Kd.N_mono HO273.out (fun _ hk => ⟨hk.1, ⟨hk.2.1, ⟨hk.2.2.2.1, hk.2.2.2.2⟩⟩⟩)))
                     (case aS => exact (below_size (by repeat (first | (with_reducible first | exact HB.out | apply below_alloc | apply pw_below_drewN | apply below_drew1 | refine below_set ?_ GE242.out | refine below_set ?_ GE255.out) | exact HB.out))))
                     (case aL => have := LMc68.out; omega)
                     intro v278 w80 ho hb hg hat
                     rw [← Ny277.out] at ho
                     have n0_ := Aside0.mk (Kd.V_afterv (ok := (fun k_ => ((P0_ k_ ∨ P2_2_ k_) ∨ w.heap.size ≤ k_) ∧ some k_ ≠ (.slice Ao72 t265.length co72 : Value).ownBlock ∧ some k_ ≠ (.slice Ao81 y274.length co81 : Value).ownBlock ∧ k_ ≠ gb242 ∧ k_ ≠ gb255)) (by (with_reducible repeat (first | apply Kd.V_alloc | apply Kd.V_drewN | apply Kd.V_drew)); exact Kd.V_mono HO_0.out (fun _ hk => ⟨⟨hk.1, ⟨hk.2.1, ⟨hk.2.2.2.1, ⟨hk.2.2.2.2.1, hk.2.2.2.2.2⟩⟩⟩⟩, hk.2.2.1⟩)) hg hat)
                     have n1_ := Aside0.mk (Kd.V_afterv (ok := (fun k_ => ((P0_ k_ ∨ P2_2_ k_) ∨ w.heap.size ≤ k_) ∧ some k_ ≠ (.slice Ao72 t265.length co72 : Value).ownBlock ∧ some k_ ≠ (.slice Ao81 y274.length co81 : Value).ownBlock ∧ k_ ≠ gb242 ∧ k_ ≠ gb255)) (by (with_reducible repeat (first | apply Kd.V_alloc | apply Kd.V_drewN | apply Kd.V_drew)); exact Kd.V_mono HO_243002.out (fun _ hk => ⟨⟨hk.1, ⟨hk.2.1, ⟨hk.2.2.2.1, ⟨hk.2.2.2.2.1, hk.2.2.2.2.2⟩⟩⟩⟩, hk.2.2.1⟩)) hg hat)
                     have n2_ := Aside0.mk (Kd.V_afterv (ok := (fun k_ => ((P0_ k_ ∨ P2_2_ k_) ∨ w.heap.size ≤ k_) ∧ some k_ ≠ (.slice Ao72 t265.length co72 : Value).ownBlock ∧ some k_ ≠ (.slice Ao81 y274.length co81 : Value).ownBlock ∧ k_ ≠ gb242 ∧ k_ ≠ gb255)) (by (with_reducible repeat (first | apply Kd.V_alloc | apply Kd.V_drewN | apply Kd.V_drew)); exact Kd.V_mono HO_256002.out (fun _ hk => ⟨⟨hk.1, ⟨hk.2.1, ⟨hk.2.2.2.1, ⟨hk.2.2.2.2.1, hk.2.2.2.2.2⟩⟩⟩⟩, hk.2.2.1⟩)) hg hat)
                     have n3_ := Aside0.mk (blk_grown (g := gb242) (o := .cells #[.int .u32 a2_0, .int .i64 a2_1, .slice A2_2 l2_2.length c2_2, .int .i64 a2_3, .int .i64 a2_4] 36 (0, 0)) (by (with_reducible repeat (first | refine blk_drewN ?_ _ | refine blk_drew ?_ | refine blk_alloc ?_ _)); exact BK242.out) hg (Kd.N_away HO273.out (fun _ hk => hk.2.2.2.1)))
                     have n4_ := Aside0.mk (blk_grown (g := gb255) (o := .cells #[.int .u32 t247, .int .i64 t248, .slice Ao38 t249.length co38, .int .i64 t252, .int .i64 t253] 36 (0, 0)) (by (with_reducible repeat (first | refine blk_drewN ?_ _ | refine blk_drew ?_ | refine blk_alloc ?_ _)); exact BK255.out) hg (Kd.N_away HO273.out (fun _ hk => hk.2.2.2.2)))
                     have n5_ := Aside0.mk (Kd.N_afterv (ok := (fun k_ => ((P0_ k_ ∨ P2_2_ k_) ∨ w.heap.size ≤ k_) ∧ some k_ ≠ (.slice Ao81 y274.length co81 : Value).ownBlock ∧ k_ ≠ gb242 ∧ k_ ≠ gb255)) (by (with_reducible repeat (first | apply Kd.N_alloc | apply Kd.N_drewN | apply Kd.N_drew)); exact Kd.N_mono HO267.out (fun _ hk => ⟨⟨hk.1, ⟨hk.2.2.1, ⟨hk.2.2.2.1, hk.2.2.2.2⟩⟩⟩, hk.2.1⟩)) hg hat)
                     have n6_ := Aside0.mk (Kd.N_afterv (ok := (fun k_ => ((P0_ k_ ∨ P2_2_ k_) ∨ w.heap.size ≤ k_) ∧ some k_ ≠ (.slice Ao72 t265.length co72 : Value).ownBlock ∧ k_ ≠ gb242 ∧ k_ ≠ gb255)) (by (with_reducible repeat (first | apply Kd.N_alloc | apply Kd.N_drewN | apply Kd.N_drew)); exact Kd.N_mono HO276.out (fun _ hk => ⟨⟨hk.1, ⟨hk.2.1, ⟨hk.2.2.2.1, hk.2.2.2.2⟩⟩⟩, hk.2.2.1⟩)) hg hat)
                     have n7_ := Aside0.mk (hb)
                     have n8_ := Aside0.mk (ho)
                     clear HO_0
                     clear HO_243002
                     clear HO_256002
                     clear BK242
                     clear BK255
                     clear HO267
                     clear HO276
                     clear HB
                     clear HO273
                     have HO_0 := n0_
                     have HO_243002 := n1_
                     have HO_256002 := n2_
                     have BK242 := n3_
                     have BK255 := n4_
                     have HO267 := n5_
                     have HO276 := n6_
                     have HB := n7_
                     have HO279 := n8_
                     clear n0_ n1_ n2_ n3_ n4_ n5_ n6_ n7_ n8_
                     clear ho hb hg hat
                     refine hK.out _ _ ⟨(blk_cell BK242.out 0).trans rfl, (blk_cell BK242.out 1).trans rfl, (blk_cell BK242.out 2).trans rfl, (blk_cell BK242.out 3).trans rfl, (blk_cell BK242.out 4).trans rfl⟩ (fun hHeld => ?_)
                     clear hK K
                     refine norm_ (a' := ?_) ?_ ?_
                     rotate_left
                     ·show Act.put _ (some 124) _ = _
                      simp only [Act.put, List.setIfInBounds_toArray, List.set_cons_zero, List.set_cons_succ, i64_w, i32_w]
                      rfl
                     refine pure_ (i := 6) (N := some 6) (v := ?_) (a' := ?_) #[true, true, true, true, true, true, true, false] rfl rfl (any_of HT_.out (by kernel_rfl)) (fun _ _ _ h => h) (Or.inl ⟨by rfl, ?_⟩) ?_ ?_
                     rotate_left
                     ·intro w'
                      go_simp
                      with_reducible rfl
                     rotate_left
                     ·simp only [Act.put, List.setIfInBounds_toArray, List.set_cons_zero, List.set_cons_succ, i64_w, i32_w]
                      rfl
                     refine pure_ (i := 7) (N := some 7) (v := ?_) (a' := ?_) #[true, true, true, true, true, true, true, true] rfl rfl (any_of HT_.out (by kernel_rfl)) (fun _ _ _ h => h) (Or.inl ⟨by rfl, ?_⟩) ?_ ?_
                     rotate_left
                     ·intro w'
                      go_simp
                      with_reducible rfl
                     rotate_left
                     ·simp only [Act.put, List.setIfInBounds_toArray, List.set_cons_zero, List.set_cons_succ, i64_w, i32_w]
                      rfl
                     refine done_ (done_of HT_.out (by kernel_rfl)) ?_
                     try go_wp2
                     go_ret2
                     exact ⟨_, by first | rfl | (simp [errW_none, errW_some] <;> rfl) | (simp [*, errW_none, errW_some] <;> rfl), Kd.N_V (by (with_reducible repeat (first | apply Kd.N_alloc | apply Kd.N_drewN | apply Kd.N_drew)); exact Kd.N_mono HO279.out (fun _ hk => hk.1)), by repeat (first | (with_reducible first | exact HB.out | apply below_alloc | apply pw_below_drewN | apply below_drew1 | refine below_set ?_ GE242.out | refine below_set ?_ GE255.out) | exact HB.out)⟩
                    ·rw [if_neg c68] at H
                     exact absurd H (by simp)
                   ·rw [if_neg c67] at H
                    exact absurd H (by simp)
    ·replace c13 := Bool.eq_false_iff.mpr c13
     subst c13
     have H1 : (some (l0, 14)) = some (r1, r2) := by rw [if_neg (show ¬ (false = true) by decide)] at H; exact H
     clear H
     have H := H1
     clear H1
     simp only [Option.some.injEq, Prod.mk.injEq] at H
     obtain ⟨rfl, rfl⟩ := H
     have hcz82_0 : wr.cell? ⟨gb242, 0, none⟩ = some (.int .u32 a2_0) := (blk_cell BK242.out 0).trans rfl
     have hcz82_1 : wr.cell? ⟨gb242, 1, none⟩ = some (.int .i64 a2_1) := (blk_cell BK242.out 1).trans rfl
     have hcz82_2 : wr.cell? ⟨gb242, 2, none⟩ = some (.slice A2_2 l2_2.length c2_2) := (blk_cell BK242.out 2).trans rfl
     have hcz82_3 : wr.cell? ⟨gb242, 3, none⟩ = some (.int .i64 a2_3) := (blk_cell BK242.out 3).trans rfl
     have hcz82_4 : wr.cell? ⟨gb242, 4, none⟩ = some (.int .i64 a2_4) := (blk_cell BK242.out 4).trans rfl
     have hfz82_0 := blk_frozen BK242.out 0
     have hfz82_1 := blk_frozen BK242.out 1
     have hfz82_2 := blk_frozen BK242.out 2
     have hfz82_3 := blk_frozen BK242.out 3
     have hfz82_4 := blk_frozen BK242.out 4
     go_wp2
     go_ret2
     exact ⟨_, by first | rfl | (simp [errW_none, errW_some] <;> rfl) | (simp [*, errW_none, errW_some] <;> rfl), by (with_reducible repeat (first | apply Kd.V_alloc | apply Kd.V_drewN | apply Kd.V_drew)); exact Kd.V_mono HO_0.out (fun _ hk => hk.1), by repeat (first | (with_reducible first | exact HB.out | apply below_alloc | apply pw_below_drewN | apply below_drew1 | refine below_set ?_ GE242.out) | exact HB.out)⟩

end Go.Proofs.Ytlkpmlcmgggifaa.PQueueRuns
