/- slices.Insert and slices.Delete of one element, at tickets. -/
import Derived.Test.YtlkpmlcmgggifaaWb
set_option linter.unusedVariables false
set_option linter.unusedSimpArgs false
namespace Go.Proofs.Ytlkpmlcmgggifaa
open Go.RowKit

theorem tk_info : (Try.prog.info? 39).map (fun i => (i.zero, i.size, i.bytes)) = some (some (.agg #[.int .u32 0, .int .i64 0, .slice none 0 0, .int .i64 0, .int .i64 0]), 5, 56) := by kernel_rfl
theorem tk_zone : ∀ v ∈ (Builtin.zeroCells (.agg #[.int .u32 0, .int .i64 0, .slice none 0 0, .int .i64 0, .int .i64 0] : Value).cells 1).toList, v.oneCell' = true := by decide +kernel
theorem tk_size : (Try.prog.info? 39).map (·.size) = some 5 := by kernel_rfl
set_option maxHeartbeats 1600000 in
set_option maxRecDepth 100000 in
/-- At the end. -/
theorem tk_insert_end (w : World) (base n c : Nat) (va : Value) (xs : List Value) (hown : w.ownsRow base 39 5 va n xs) (nb : Nat) (news : List Value) (hnb : Blk w nb news.toArray 39) (hnl : news.length = 5) (h1 : ∀ v ∈ news, v.oneCell' = true)
    (hmany : n ≤ 100000) (hbase : base ≤ w.heap.size) :
    Calls Try.prog 55 #[va, .int .i64 n, .slice (some ⟨nb, 0, none⟩) 1 1] w fun e w' => InsRes 39 5 w w' base va n (xs ++ news) e := by
  obtain ⟨i0, hi, hz0, hz1, hz2⟩ := info_parts tk_info
  have HI := Lib.hid hi
  have HZ0 := Lib.hid hz0
  have HZ1 := Lib.hid hz1
  have HZ2 := Lib.hid hz2
  have HO := Lib.hid hown
  have HNB := Lib.hid hnb
  have HNL := Lib.hid hnl
  have H1 := Lib.hid h1
  have HB := Lib.hid hbase
  clear hi hz0 hz1 hz2 hown hnb hnl h1 hbase
  obtain ⟨A, C, rfl, hAC⟩ : ∃ A C, va = .slice A n C ∧ (n ≤ C ∧ C ≤ maxLen) := by
    rcases HO.out.2 with ⟨rfl, rfl⟩ | ⟨g, cap, cur, rfl, _, _, h3, h4, _⟩
    · exact ⟨none, 0, rfl, Nat.le_refl _, Nat.zero_le _⟩
    · exact ⟨_, cap, rfl, h3, h4⟩
  unfold maxLen at hAC
  obtain ⟨hAC, hAM⟩ := hAC
  go_enter Try.func55, Try.ntmps55
  obtain ⟨H, hH⟩ : ∃ H, H = w.heap.size := ⟨_, rfl⟩
  have HH := Lib.hid hH
  clear hH
  go_wp2_with (at_builtin; refine wpList_append_lies _ rfl (.tmp 23) (.tmp 24) 44 rfl base 39 i0 _ 5 56 Try.underlying44 HI.out HZ0.out HZ1.out HZ2.out rfl (by decide) (.slice A n C) n xs rfl HO.out ⟨nb, 0, none⟩ 1 1 news rfl (by rw [HNL.out]) (World.news_of_block HNB.out) H1.out (by decide) (by unfold maxLen; omega) (by omega) HB.out H HH.out.symm ?_; intro g cap w1 hown1 hg1 hat hlt)
  all_goals go_ret
  all_goals exact ⟨_, rfl, hown1, (kept_of_grown hg1).mono (fun j _ h => (ownBlock_cap _ _ _ _ _).trans h), fun k hk => by
    simp [Value.ownBlock] at hk; subst hk
    rcases hat with h | h
    · exact .inl ((ownBlock_cap _ _ _ _ _).trans h)
    · exact .inr (by rw [h, HH.out]; exact Nat.le_refl _)⟩
set_option maxHeartbeats 4000000 in
set_option maxRecDepth 100000 in
/-- Ahead of the end, where there is room: in place. -/
theorem tk_insert_shift (w : World) (base n c i g : Nat) (xs : List Value) (hown : w.ownsRow base 39 5 (.slice (some ⟨g, 0, none⟩) n c) n xs) (hin : i < n) (hroom : n + 1 ≤ c) (nb : Nat) (news : List Value) (hnb : Blk w nb news.toArray 39) (hnl : news.length = 5) (h1 : ∀ v ∈ news, v.oneCell' = true) (hx1 : ∀ v ∈ xs, v.oneCell' = true) (hne : nb ≠ g) :
    Calls Try.prog 55 #[.slice (some ⟨g, 0, none⟩) n c, .int .i64 i, .slice (some ⟨nb, 0, none⟩) 1 1] w fun e w' => InsRes 39 5 w w' base (.slice (some ⟨g, 0, none⟩) n c) n (xs.take (i * 5) ++ news ++ xs.drop (i * 5)) e := by
  obtain ⟨L, hb, hbg, hnc, hcm, hl, ht⟩ := own_open hown
  have hlt := hb.lt
  unfold maxLen at hcm
  have hLq : n * 5 + 5 ≤ L.length := by rw [hl]; omega
  obtain ⟨cs1, hcs1⟩ : ∃ cs1, cs1 = (L.drop (i * 5)).take (n * 5 - i * 5) := ⟨_, rfl⟩
  have hcl : cs1.length = n * 5 - i * 5 := by rw [hcs1, List.length_take, List.length_drop]; omega
  have hcs1x : cs1 = xs.drop (i * 5) := by rw [hcs1, ← ht, List.drop_take]
  have hc1 : ∀ v ∈ cs1, v.oneCell' = true := fun v hv => hx1 v (by rw [hcs1x] at hv; exact List.mem_of_mem_drop hv)
  have hov : ∀ lb cb, (callFunc 100 #[.slice (some ⟨nb, 0, none⟩) 1 1, .slice (some ⟨g, (i + 1) * 5, none⟩) lb cb]).run Try.prog w = .ok (.value (.bool false)) w := fun lb cb => by
    rw [run_callFunc_extern Try.func100 (by kernel_rfl) (by kernel_rfl) (by kernel_rfl) (e := Extern.SlicesOverlaps.overlaps #[44, 44] #[4]) (by kernel_rfl),
      Lib.run_overlaps_apart w 44 4 39 Try.underlying44 5 Try.sizeOf39 ⟨nb, 0, none⟩ ⟨g, (i + 1) * 5, none⟩ 1 1 lb cb hne _ _ _ _ (blk_shape hnb) (blk_shape hb) (by simp only [List.size_toArray]; omega) (hnb.frozen _) (hnb.frozen _)]
    rfl
  have hcp1 : ∀ ty dc sc, (Builtin.copy_ #[44, 44] ty #[.slice (some ⟨g, (i + 1) * 5, none⟩) (n - i) dc, .slice (some ⟨g, i * 5, none⟩) (n + 1 - i) sc]).run Try.prog w.drew = .ok (goInt (Nat.min (n + 1 - i) (n - i) : Nat)) (w.drew.setCells g ((i + 1) * 5) cs1) := fun ty dc sc =>
    run_copyN w.drew _ _ ty 39 5 g ((i + 1) * 5) (n - i) dc ⟨g, i * 5, none⟩ (n + 1 - i) sc cs1 Try.underlying44 tk_size (by rw [hcl]; simp only [Nat.min_def]; split <;> omega)
      (fun j v hj => by
        rw [Addr.add_lit, World.cell?_drew, hb.cell]
        rw [hcs1, List.getElem?_take] at hj
        split at hj
        · rw [List.getElem?_drop] at hj; simpa using hj
        · cases hj)
      (fun j hj => by rw [World.cell?_drew]; exact blk_isSome hb (by omega)) (fun j hj => by rw [World.frozen?_drew]; exact hb.frozen _) hc1
  obtain ⟨W1, hW1⟩ : ∃ W1, W1 = w.drew.setCells g ((i + 1) * 5) cs1 := ⟨_, rfl⟩
  have hb1 : Blk W1 g (splice L ((i + 1) * 5) cs1).toArray 39 := by rw [hW1]; exact blk_setCells _ _ _ _ (blk_drew hb) (by omega)
  have hk1 : Kept w W1 (fun k => k = g) := by rw [hW1]; exact kept_setCells g _ _ _ _ _ (Kept.refl _ _).drew (fun _ => rfl)
  have hnb1 : Blk W1 nb news.toArray 39 := hnb.kept hk1 hne
  have hsl : (splice L ((i + 1) * 5) cs1).length = L.length := length_splice _ _ _ (by omega)
  have hcp2 : ∀ ty dc, (Builtin.copy_ #[44, 44] ty #[.slice (some ⟨g, i * 5, none⟩) (n + 1 - i) dc, .slice (some ⟨nb, 0, none⟩) 1 1]).run Try.prog W1 = .ok (goInt (Nat.min 1 (n + 1 - i) : Nat)) (W1.setCells g (i * 5) news) := fun ty dc =>
    run_copyN W1 _ _ ty 39 5 g (i * 5) (n + 1 - i) dc ⟨nb, 0, none⟩ 1 1 news Try.underlying44 tk_size (by rw [hnl]; simp only [Nat.min_def]; split <;> omega)
      (fun j v hj => by rw [Addr.add_lit, hnb1.cell]; simpa using hj)
      (fun j hj => blk_isSome hb1 (by rw [hsl]; omega)) (fun j hj => hb1.frozen _) h1
  have hfin : InsRes 39 5 w (W1.setCells g (i * 5) news) base (.slice (some ⟨g, 0, none⟩) n c) n (xs.take (i * 5) ++ news ++ xs.drop (i * 5)) (.returned (.slice (some ⟨g, 0, none⟩) (n + 1) c)) := by
    refine ⟨_, rfl, own_shut (blk_setCells _ _ _ _ hb1 (by rw [hsl]; omega)) hbg hroom (by unfold maxLen; omega) (by rw [length_splice _ _ _ (by rw [hsl]; omega), hsl, hl]) ?_, ?_, fun k hk => .inl ?_⟩
    · rw [hcs1, show (i + 1) * 5 = i * 5 + 5 by omega, show (n + 1) * 5 = n * 5 + 5 by omega, ← ht]
      exact shift_list L news (i * 5) (n * 5) 5 (by omega) hLq hnl
    · exact (kept_setCells g _ _ _ _ _ hk1 (fun _ => rfl)).mono (fun j _ h => by rw [h]; rfl)
    · simp [Value.ownBlock] at hk ⊢; exact hk
  have HF := Lib.hid hfin
  rw [← hW1] at hcp1
  have HC1 := Lib.hid hcp1
  have HC2 := Lib.hid hcp2
  have mixed : Try.prog.follows .mixedOrders = true := by kernel_rfl
  have hz2 : ¬ ((i : Int) = (n : Int)) := by omega
  have hw1 : IntKind.i64.wrap ((i : Int) + 1) = (i : Int) + 1 := by rw [IntKind.wrap_i64]; omega
  have hw2 : IntKind.i64.wrap ((n : Int) + 1) = (n : Int) + 1 := by rw [IntKind.wrap_i64]; omega
  have hp1 : (0 : Int) ≤ (i : Int) + 1 := by omega
  have hp2 : ((i : Int) + 1).toNat = i + 1 := by omega
  have hp3 : ((n : Int) + 1).toNat = n + 1 := by omega
  have hp4 : (i : Int) ≤ (n : Int) + 1 := by omega
  have hin' : i ≤ n := by omega
  have hin2 : i ≤ n + 1 := by omega
  have hci : ¬ (c = i) := by omega
  have hci1 : ¬ (c = i + 1) := by omega
  have hcn : (n : Int) + 1 ≤ (c : Int) := by omega
  have hnot : ∀ (x : Bool) (w : World), (Op.unary .not (.bool x)).run Try.prog w = .ok (.bool (!x)) w := fun _ _ => rfl
  clear hown hb hbg hl ht hLq hcs1 hcl hcs1x hc1 hW1 hb1 hk1 hnb1 hsl hcp1 hcp2 hfin hnb hnl h1 hx1 hlt
  go_enter Try.func55, Try.ntmps55
  go_wp2_with (simp only [hov])
  go_region_law (refine step_copy_runI rfl _ _ 44 44 rfl (.slice (some ⟨g, (i + 1) * 5, none⟩) (n - i) (c - (i + 1))) (.slice (some ⟨g, i * 5, none⟩) (n + 1 - i) (c - i)) (by simp [Act.eval, Act.put]) (by simp [Act.eval, Act.put]) (HC1.out _ _ _) ?_)
  go_wp2_with (with_reducible refine wpList_copy_runI _ rfl (.tmp 80) (.tmp 81) 44 44 rfl _ _ rfl rfl (HC2.out _ _) ?_)
  go_ret
  exact HF.out
set_option maxHeartbeats 4000000 in
set_option maxRecDepth 100000 in
/-- Ahead of the end, where there is no room: a new row. -/
theorem tk_insert_grow (w : World) (base n c i g : Nat) (xs : List Value) (hown : w.ownsRow base 39 5 (.slice (some ⟨g, 0, none⟩) n c) n xs) (hin : i < n) (hroom : c < n + 1) (hmany : n ≤ 100000) (hbase : base ≤ w.heap.size) (nb : Nat) (news : List Value) (hnb : Blk w nb news.toArray 39) (hnl : news.length = 5) (h1 : ∀ v ∈ news, v.oneCell' = true) (hx1 : ∀ v ∈ xs, v.oneCell' = true) :
    Calls Try.prog 55 #[.slice (some ⟨g, 0, none⟩) n c, .int .i64 i, .slice (some ⟨nb, 0, none⟩) 1 1] w fun e w' => InsRes 39 5 w w' base (.slice (some ⟨g, 0, none⟩) n c) n (xs.take (i * 5) ++ news ++ xs.drop (i * 5)) e := by
  obtain ⟨i0, hi0, hz0, hzs, hzb⟩ := info_parts tk_info
  have hxl := hown.1
  obtain ⟨L, hb, hbg, hnc, hcm, hl, ht⟩ := own_open hown
  have hlt := hb.lt
  have hnlt := hnb.lt
  unfold maxLen at hcm
  have hck : ∀ j u, xs[j]? = some u → w.cell? ⟨g, j, none⟩ = some u := fun j u hu => by
    rw [hb.cell]
    rw [← ht, List.getElem?_take] at hu
    split at hu
    · simpa using hu
    · cases hu
  have hkk : (n : Int) + 1 - (i : Int) = ((n + 1 - i : Nat) : Int) := by omega
  have hik : i + (n + 1 - i) = n + 1 := by omega
  have hold : (Builtin.firstCells i0.size i (.slice (some ⟨g, 0, none⟩) i c)).run Try.prog w.drew = .ok (xs.take (i * 5)).toArray w.drew := by
    rw [hzs]
    exact run_firstCells_some w.drew 5 i ⟨g, 0, none⟩ i c (xs.take (i * 5)) (by rw [List.length_take, hxl]; omega) (fun j v hj => by
      rw [Addr.add_lit, Nat.zero_add, World.cell?_drew]
      rw [List.getElem?_take] at hj
      split at hj
      · exact hck j v hj
      · cases hj)
  obtain ⟨G, hG⟩ : ∃ G, G = grownCap w (n + 1) c 39 := ⟨_, rfl⟩
  have hGn : n + 1 ≤ G := by rw [hG]; exact grownCap_ge w _ _ _
  have hG63 : G ≤ 9223372036854775807 := by
    have := grownCap_le_maxLen w (n + 1) c 39 (by unfold maxLen; omega)
    rw [← hG] at this
    unfold maxLen at this
    omega
  obtain ⟨ROW, hROW⟩ : ∃ ROW : List Value, ROW = ((xs.take (i * 5)).toArray ++ Builtin.zeroCells (.agg #[.int .u32 0, .int .i64 0, .slice none 0 0, .int .i64 0, .int .i64 0] : Value).cells (n + 1 - i) ++ Builtin.zeroCells (.agg #[.int .u32 0, .int .i64 0, .slice none 0 0, .int .i64 0, .int .i64 0] : Value).cells (G - (n + 1))).toList := ⟨_, rfl⟩
  have hRl : ROW.length = G * 5 := by
    rw [hROW]
    simp [Builtin.zeroCells, Value.cells, hxl]
    omega
  have hRp : ROW.take (i * 5) = xs.take (i * 5) := by
    rw [hROW]
    simp only [Array.toList_append, List.append_assoc]
    rw [List.take_left' (by rw [List.length_take, hxl]; omega)]
  obtain ⟨W1, hW1⟩ : ∃ W1, W1 = w.drew.alloc (.cells ROW.toArray 39) := ⟨_, rfl⟩
  have hrz : ∀ ty, (Builtin.append_ #[44, 3] ty #[.slice (some ⟨g, 0, none⟩) i c, .int .i64 ((n : Int) + 1 - (i : Int))]).run Try.prog w = .ok (.slice (some ⟨w.heap.size, 0, none⟩) (n + 1) G) W1 := fun ty => by
    have h := Lib.run_append_grow_zeros w 44 3 ty 39 i0 _ .i64 .i64 Try.underlying44 Try.underlying3 hi0 hz0 (some ⟨g, 0, none⟩) i c (xs.take (i * 5)) hold (n + 1 - i) (by omega) (by omega) (by omega) (by omega) (by rw [hzb]; omega) (by rw [hzb, hik]; exact growslice_fits hroom (by omega))
    rw [hik, ← hG] at h
    rw [hkk, hW1, hROW, Array.toArray_toList]
    exact h
  have hB1 : Blk W1 w.heap.size ROW.toArray 39 := by rw [hW1]; exact heap_alloc_new w.drew _
  have hk1 : Kept w W1 (fun _ => False) := by rw [hW1]; exact ((Kept.refl w _).drew).alloc _
  have hb1 := hb.kept hk1 (fun c => c)
  have hnb1 := hnb.kept hk1 (fun c => c)
  have hz1 : W1.heap.size = w.heap.size + 1 := by rw [hW1]; simp
  have hcp1 : ∀ ty dc, (Builtin.copy_ #[44, 44] ty #[.slice (some ⟨w.heap.size, i * 5, none⟩) (n + 1 - i) dc, .slice (some ⟨nb, 0, none⟩) 1 1]).run Try.prog W1 = .ok (goInt (Nat.min 1 (n + 1 - i) : Nat)) (W1.setCells w.heap.size (i * 5) news) := fun ty dc =>
    run_copyN W1 _ _ ty 39 5 w.heap.size (i * 5) (n + 1 - i) dc ⟨nb, 0, none⟩ 1 1 news Try.underlying44 tk_size (by rw [hnl]; simp only [Nat.min_def]; split <;> omega)
      (fun j v hj => by rw [Addr.add_lit, hnb1.cell]; simpa using hj)
      (fun j hj => blk_isSome hB1 (by rw [hRl]; omega)) (fun j hj => hB1.frozen _) h1
  obtain ⟨W2, hW2⟩ : ∃ W2, W2 = W1.setCells w.heap.size (i * 5) news := ⟨_, rfl⟩
  have hk2 : Kept w W2 (fun _ => False) := by rw [hW2]; exact kept_setCells _ _ _ _ _ _ hk1 (fun h => absurd h (by omega))
  have hB2 : Blk W2 w.heap.size (splice ROW (i * 5) news).toArray 39 := by rw [hW2]; exact blk_setCells _ _ _ _ hB1 (by rw [hRl]; omega)
  have hb2 := hb.kept hk2 (fun c => c)
  have hsl : (splice ROW (i * 5) news).length = G * 5 := by rw [length_splice _ _ _ (by rw [hRl]; omega), hRl]
  have hdl : (xs.drop (i * 5)).length = n * 5 - i * 5 := by rw [List.length_drop, hxl]
  have hcp2 : ∀ ty dc sc, (Builtin.copy_ #[44, 44] ty #[.slice (some ⟨w.heap.size, (i + 1) * 5, none⟩) (n - i) dc, .slice (some ⟨g, i * 5, none⟩) (n - i) sc]).run Try.prog W2.drew = .ok (goInt (Nat.min (n - i) (n - i) : Nat)) (W2.drew.setCells w.heap.size ((i + 1) * 5) (xs.drop (i * 5))) := fun ty dc sc =>
    run_copyN W2.drew _ _ ty 39 5 w.heap.size ((i + 1) * 5) (n - i) dc ⟨g, i * 5, none⟩ (n - i) sc (xs.drop (i * 5)) Try.underlying44 tk_size (by rw [hdl]; simp only [Nat.min_def]; split <;> omega)
      (fun j v hj => by
        rw [Addr.add_lit, World.cell?_drew, hk2.cell (p := ⟨g, i * 5 + j, none⟩) hlt (fun c => c)]
        exact hck _ v (by rwa [List.getElem?_drop] at hj))
      (fun j hj => by rw [World.cell?_drew]; exact blk_isSome hB2 (by rw [hsl]; omega)) (fun j hj => by rw [World.frozen?_drew]; exact hB2.frozen _) (fun v hv => hx1 v (List.mem_of_mem_drop hv))
  have hfin : InsRes 39 5 w (W2.drew.setCells w.heap.size ((i + 1) * 5) (xs.drop (i * 5))) base (.slice (some ⟨g, 0, none⟩) n c) n (xs.take (i * 5) ++ news ++ xs.drop (i * 5)) (.returned (.slice (some ⟨w.heap.size, 0, none⟩) (n + 1) G)) := by
    refine ⟨_, rfl, own_shut (blk_setCells _ _ _ _ (blk_drew hB2) (by rw [hsl]; omega)) hbase hGn (by unfold maxLen; omega) (by rw [length_splice _ _ _ (by rw [hsl]; omega), hsl]) ?_, ?_, fun k hk => .inr ?_⟩
    · rw [show (i + 1) * 5 = i * 5 + 5 by omega, show (n + 1) * 5 = n * 5 + 5 by omega]
      exact grow_list ROW xs news (i * 5) (n * 5) 5 (by omega) (by rw [hRl]; omega) hRp hxl hnl
    · exact (kept_setCells w.heap.size _ _ _ _ _ hk2.drew (fun h => absurd h (by omega))).mono (fun j _ h => h.elim)
    · simp [Value.ownBlock] at hk; omega
  have HF := Lib.hid hfin
  rw [← hW2] at hcp1
  have HRZ := Lib.hid hrz
  have HC1 := Lib.hid hcp1
  have HC2 := Lib.hid hcp2
  have mixed : Try.prog.follows .mixedOrders = true := by kernel_rfl
  have hz2 : ¬ ((i : Int) = (n : Int)) := by omega
  have hz3 : (c : Int) < (n : Int) + 1 := by omega
  have hw1 : IntKind.i64.wrap ((i : Int) + 1) = (i : Int) + 1 := by rw [IntKind.wrap_i64]; omega
  have hw2 : IntKind.i64.wrap ((n : Int) + 1) = (n : Int) + 1 := by rw [IntKind.wrap_i64]; omega
  have hp1 : (0 : Int) ≤ (i : Int) + 1 := by omega
  have hp2 : ((i : Int) + 1).toNat = i + 1 := by omega
  have hp5 : (i : Int) ≤ (n : Int) := by omega
  have hin' : i ≤ n := by omega
  have hin2 : i ≤ n + 1 := by omega
  have hci : ¬ (c = i) := by omega
  have hGi : ¬ (G = i) := by omega
  have hGi1 : ¬ (G = i + 1) := by omega
  clear hown hb hbg hl ht hck hkk hik hold hG hROW hRl hRp hW1 hrz hB1 hk1 hb1 hnb1 hz1 hcp1 hW2 hk2 hB2 hb2 hsl hdl hcp2 hfin hnb hnl h1 hx1 hi0 hz0 hzs hzb hbase hlt hnlt hxl
  go_enter Try.func55, Try.ntmps55
  go_wp2_with (first
    | (at_builtin; refine Lib.wpList_append_run _ rfl (.tmp 34) (.tmp 39) 44 3 rfl _ _ rfl rfl _ _ (HRZ.out _) ?_)
    | (with_reducible refine wpList_copy_runI _ rfl (.tmp 43) (.tmp 44) 44 44 rfl _ _ rfl rfl (HC1.out _ _) ?_))
  go_region_law (refine step_copy_runI rfl _ _ 44 44 rfl (.slice (some ⟨w.heap.size, (i + 1) * 5, none⟩) (n - i) (G - (i + 1))) (.slice (some ⟨g, i * 5, none⟩) (n - i) (c - i)) (by simp [Act.eval, Act.put]) (by simp [Act.eval, Act.put]) (HC2.out _ _ _) ?_)
  go_wp2
  go_ret
  exact HF.out
/-- slices.Insert of one element into an owned row. -/
theorem tk_insert (w : World) (base n i : Nat) (va : Value) (xs : List Value) (hown : w.ownsRow base 39 5 va n xs) (hin : i ≤ n) (hmany : n ≤ 100000) (hbase : base ≤ w.heap.size) (nb : Nat) (news : List Value) (hnb : Blk w nb news.toArray 39) (hnl : news.length = 5) (h1 : ∀ v ∈ news, v.oneCell' = true) (hx1 : ∀ v ∈ xs, v.oneCell' = true) (hne : va.ownBlock ≠ some nb) :
    Calls Try.prog 55 #[va, .int .i64 i, .slice (some ⟨nb, 0, none⟩) 1 1] w fun e w' => InsRes 39 5 w w' base va n (xs.take (i * 5) ++ news ++ xs.drop (i * 5)) e := by
  by_cases hlt : i < n
  · rcases hown.2 with ⟨_, h0⟩ | ⟨g, cap, cur, rfl, _, _, h3, h4, _⟩
    · omega
    · by_cases hroom : n + 1 ≤ cap
      · exact tk_insert_shift w base n cap i g xs hown hlt hroom nb news hnb hnl h1 hx1 (fun e => hne (by rw [e]; rfl))
      · exact tk_insert_grow w base n cap i g xs hown hlt (by omega) hmany hbase nb news hnb hnl h1 hx1
  · obtain rfl : i = n := by omega
    rw [List.take_of_length_le (by rw [hown.1]; omega), List.drop_of_length_le (by rw [hown.1]; omega), List.append_nil]
    exact tk_insert_end w base i 0 va xs hown nb news hnb hnl h1 hmany hbase
set_option maxHeartbeats 4000000 in
set_option maxRecDepth 100000 in
/-- slices.Delete of one element out of an owned row. -/
theorem tk_delete (w : World) (base n i : Nat) (va : Value) (xs : List Value) (hown : w.ownsRow base 39 5 va n xs) (hin : i < n) (hx1 : ∀ v ∈ xs, v.oneCell' = true) :
    Calls Try.prog 64 #[va, .int .i64 i, .int .i64 ((i + 1 : Nat) : Int)] w fun e w' => DelRes 39 5 w w' base va n (xs.take (i * 5) ++ xs.drop ((i + 1) * 5)) e := by
  obtain ⟨i0, hi0, hz0, hzs, hzb⟩ := info_parts tk_info
  obtain ⟨g, c, rfl⟩ : ∃ g c, va = .slice (some ⟨g, 0, none⟩) n c := by
    rcases hown.2 with ⟨_, h0⟩ | ⟨g, cap, cur, rfl, _⟩
    · omega
    · exact ⟨g, cap, rfl⟩
  have hxl := hown.1
  obtain ⟨L, hb, hbg, hnc, hcm, hl, ht⟩ := own_open hown
  have hlt := hb.lt
  unfold maxLen at hcm
  have hck : ∀ j u, xs[j]? = some u → w.cell? ⟨g, j, none⟩ = some u := fun j u hu => by
    rw [hb.cell]
    rw [← ht, List.getElem?_take] at hu
    split at hu
    · simpa using hu
    · cases hu
  obtain ⟨news, hnews⟩ : ∃ news, news = xs.drop ((i + 1) * 5) := ⟨_, rfl⟩
  have hnl : news.length = (n - (i + 1)) * 5 := by rw [hnews, List.length_drop, hxl]; omega
  obtain ⟨A, hA, hsrc⟩ : ∃ A : Addr, (if c = i + 1 then some (⟨g, 0, none⟩ : Addr) else some ⟨g, (i + 1) * 5, none⟩) = some A ∧ ∀ j u, news[j]? = some u → w.drew.cell? (A.add j) = some u := by
    by_cases h : c = i + 1
    · refine ⟨⟨g, 0, none⟩, by simp [h], fun j u hu => ?_⟩
      rw [List.length_eq_zero_iff.1 (by rw [hnl]; omega : news.length = 0)] at hu
      simp at hu
    · refine ⟨⟨g, (i + 1) * 5, none⟩, by simp [h], fun j u hu => ?_⟩
      rw [Addr.add_lit, World.cell?_drew]
      exact hck _ u (by rw [hnews, List.getElem?_drop] at hu; exact hu)
  have hn1 : ∀ u ∈ news, u.oneCell' = true := fun u hu => hx1 u (by rw [hnews] at hu; exact List.mem_of_mem_drop hu)
  have hap : ∀ ty, (Builtin.append_ #[44, 44] ty #[.slice (some ⟨g, 0, none⟩) i c, .slice (some A) (n - (i + 1)) (c - (i + 1))]).run Try.prog w.drew = .ok (.slice (some ⟨g, 0, none⟩) (i + (n - (i + 1))) c) (w.drew.setCells g (i * 5) news) := fun ty => by
    have h := run_append_room_cells (P := Try.prog) w.drew 44 ty 39 i0 Try.underlying44 hi0 g 0 i c A (n - (i + 1)) (c - (i + 1)) news (by rw [hzs]; exact hnl) hsrc hn1 (by omega)
      (fun j hj => by rw [World.cell?_drew, hzs]; exact blk_isSome hb (by rw [hnl] at hj; omega)) (fun j hj => by rw [World.frozen?_drew]; exact hb.frozen _)
    rw [hzs, Nat.zero_add] at h
    exact h
  obtain ⟨W1, hW1⟩ : ∃ W1, W1 = w.drew.setCells g (i * 5) news := ⟨_, rfl⟩
  have hb1 : Blk W1 g (splice L (i * 5) news).toArray 39 := by rw [hW1]; exact blk_setCells _ _ _ _ (blk_drew hb) (by rw [hnl]; omega)
  have hsl : (splice L (i * 5) news).length = c * 5 := by rw [length_splice _ _ _ (by rw [hnl]; omega), hl]
  have hk1 : Kept w W1 (fun k => k = g) := by rw [hW1]; exact kept_setCells g _ _ _ _ _ (Kept.refl _ _).drew (fun _ => rfl)
  rw [← hW1] at hap
  have hcl : ∀ ty, (Builtin.clear_ #[44] ty #[.slice (some ⟨g, (n - 1) * 5, none⟩) 1 (c - (n - 1))]).run Try.prog W1 = .ok (.tuple #[]) (W1.setCells g ((n - 1) * 5) (Builtin.zeroCells (.agg #[.int .u32 0, .int .i64 0, .slice none 0 0, .int .i64 0, .int .i64 0] : Value).cells 1).toList) := fun ty =>
    run_clearN W1 44 39 ty (.agg #[.int .u32 0, .int .i64 0, .slice none 0 0, .int .i64 0, .int .i64 0]) 5 Try.underlying44 Try.zeroValue39 g ((n - 1) * 5) 1 (c - (n - 1)) (by decide) _ rfl tk_zone
      (fun j hj => blk_isSome hb1 (by rw [hsl]; simp [Builtin.zeroCells, Value.cells] at hj; omega)) (fun j hj => hb1.frozen _)
  have hfin : DelRes 39 5 w (W1.setCells g ((n - 1) * 5) (Builtin.zeroCells (.agg #[.int .u32 0, .int .i64 0, .slice none 0 0, .int .i64 0, .int .i64 0] : Value).cells 1).toList) base (.slice (some ⟨g, 0, none⟩) n c) n (xs.take (i * 5) ++ xs.drop ((i + 1) * 5)) (.returned (.slice (some ⟨g, 0, none⟩) (n - 1) c)) := by
    have hzl : (Builtin.zeroCells (.agg #[.int .u32 0, .int .i64 0, .slice none 0 0, .int .i64 0, .int .i64 0] : Value).cells 1).toList.length = 5 := by simp [Builtin.zeroCells, Value.cells]
    refine ⟨_, rfl, own_shut (blk_setCells _ _ _ _ hb1 (by rw [hsl, hzl]; omega)) hbg (by omega) (by unfold maxLen; omega) (by rw [length_splice _ _ _ (by rw [hsl, hzl]; omega), hsl]) ?_, ?_, rfl⟩
    · rw [hnews, ← ht, show (i + 1) * 5 = i * 5 + 5 by omega, show (n - 1) * 5 = n * 5 - 5 by omega]
      exact del_list L _ (i * 5) (n * 5) 5 (by omega) (by rw [hl]; omega) hzl
    · exact (kept_setCells g _ _ _ _ _ hk1 (fun _ => rfl)).mono (fun j _ h => by rw [h]; rfl)
  have HF := Lib.hid hfin
  have HAP := Lib.hid hap
  generalize W1.setCells g ((n - 1) * 5) (Builtin.zeroCells (.agg #[.int .u32 0, .int .i64 0, .slice none 0 0, .int .i64 0, .int .i64 0] : Value).cells 1).toList = W2 at hcl HF
  have mixed : Try.prog.follows .mixedOrders = true := by kernel_rfl
  have hw1 : IntKind.i64.wrap ((i : Int) + 1) = (i : Int) + 1 := by rw [IntKind.wrap_i64]; omega
  have hz2 : ¬ ((i : Int) = (i : Int) + 1) := by omega
  have hp0 : (0 : Int) ≤ (i : Int) + 1 := by omega
  have hp1 : (i : Int) + 1 ≤ (n : Int) := by omega
  have hp2 : ((i : Int) + 1).toNat = i + 1 := by omega
  have hp3 : i ≤ i + 1 := by omega
  have hp4 : i + 1 ≤ n := by omega
  have hic : i ≤ c := by omega
  have hnm : i + (n - (i + 1)) = n - 1 := by omega
  have hnm2 : n - (n - 1) = 1 := by omega
  have hcn : ¬ (c = n - 1) := by omega
  clear hown hb hbg hl ht hck hnews hnl hsrc hn1 hap hW1 hb1 hsl hk1 hfin hi0 hz0 hzs hzb hlt hx1 hxl
  rw [show (((i + 1 : Nat) : Int)) = (i : Int) + 1 by omega]
  go_enter Try.func64, Try.ntmps64
  go_wp2_with fail
  go_region_law (refine step_append_eq rfl (.tmp 22) (.tmp 25) 44 44 rfl (.slice (some ⟨g, 0, none⟩) i c) (.slice (some A) (n - (i + 1)) (c - (i + 1))) (by simp [Act.eval, Act.put]) (by simp [Act.eval, Act.put]) (HAP.out _) ?_)
  clear hA HAP
  go_wp2
  go_ret
  exact HF.out
end Go.Proofs.Ytlkpmlcmgggifaa
