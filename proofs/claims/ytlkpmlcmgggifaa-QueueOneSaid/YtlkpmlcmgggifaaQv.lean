/- The document's rack, as QueueOne uses it: ids, each with 0. -/
import Derived.Test.YtlkpmlcmgggifaaQt
import Derived.Deep.RegionLaw
import Derived.Deep.AppendLies
set_option linter.unusedVariables false
set_option linter.unusedSimpArgs false
namespace Go.Proofs.Ytlkpmlcmgggifaa
open Go.RowKit
def idCs (x : Int) : List Value := [.int .u32 x, .int .i64 0]
def OwnR (w : World) (base : Nat) (v : Value) (xs : List Int) : Prop := w.ownsRow base 119 2 v xs.length (xs.flatMap idCs)
theorem flatR_getElem (xs : List Int) : ∀ (i : Nat), i < xs.length → ∀ j, j < 2 → (xs.flatMap idCs)[i * 2 + j]? = (idCs (xs.getD i 0))[j]? := by
  induction xs with
  | nil => intro i hi; simp at hi
  | cons t r ih =>
    intro i hi j hj
    have hl : (idCs t).length = 2 := rfl
    rw [List.flatMap_cons]
    cases i with
    | zero =>
      rw [List.getElem?_append_left (by omega)]
      simp
    | succ i =>
      rw [List.getElem?_append_right (by omega), hl, show (i + 1) * 2 + j - 2 = i * 2 + j by omega, ih i (by simpa using hi) j hj]
      simp
theorem OwnR.open {w : World} {base : Nat} {v : Value} {xs : List Int} (h : OwnR w base v xs) :
    (v = .slice none 0 0 ∧ xs = []) ∨ ∃ b c, v = .slice (some ⟨b, 0, none⟩) xs.length c ∧ b < w.heap.size ∧ ∀ i, i < xs.length → w.cell? ⟨b, i * 2, none⟩ = some (.int .u32 (xs.getD i 0)) ∧ w.cell? ⟨b, i * 2 + 1, none⟩ = some (.int .i64 0) := by
  rcases h.2 with ⟨rfl, hn⟩ | ⟨g, cap, cur, rfl, hb, hgg, hnc, hcm, hcs, ht⟩
  · exact .inl ⟨rfl, List.eq_nil_of_length_eq_zero hn⟩
  · have h1 : w.ownsRow base 119 2 (.slice (some ⟨g, 0, none⟩) xs.length cap) xs.length (xs.flatMap idCs) := h
    refine .inr ⟨g, cap, rfl, (Array.getElem?_eq_some_iff.1 hgg).1, fun i hi => ⟨?_, ?_⟩⟩
    · have e := h1.cellAt (i * 2) (by omega)
      rw [e, show i * 2 = i * 2 + 0 from rfl, flatR_getElem xs i hi 0 (by omega)]
      rfl
    · have e := h1.cellAt (i * 2 + 1) (by omega)
      rw [e, flatR_getElem xs i hi 1 (by omega)]
      rfl
theorem OwnR.form {w : World} {base : Nat} {v : Value} {xs : List Int} (h : OwnR w base v xs) : ∃ A c, v = .slice A xs.length c := by
  rcases h.open with ⟨rfl, rfl⟩ | ⟨b, c, rfl, _⟩
  · exact ⟨none, 0, rfl⟩
  · exact ⟨_, c, rfl⟩
theorem info119 : (Try.prog.info? 119).map (fun i => (i.zero, i.size, i.bytes)) = some (some (.agg #[.int .u32 0, .int .i64 0]), 2, 16) := by kernel_rfl
theorem ref_right (x : Int) (w : World) (hx : rightB x = true) : Calls Try.prog 57 #[.int .u32 x] w fun e w' => e = .returned (.bool true) ∧ w = w' := by
  have h0 := rightB_ne hx
  have h1 : x ≤ 2147483647 := by simp [rightB] at hx; omega
  have hd : (x != 0) = true := by simpa using h0
  clear hx
  go_enter Try.func57, Try.ntmps57
  go_wp2
  go_ret
  exact ⟨rfl, rfl⟩
set_option maxHeartbeats 1600000 in
set_option maxRecDepth 100000 in
theorem ref_find (v : Value) (xs : List Int) (x most : Int) (base : Nat) (w : World) (ho : OwnR w base v xs) (hm : xs.length ≤ 1000) :
    Calls Try.prog 58 #[.agg #[v, .int .i64 most], .int .u32 x] w fun e w' => e = .returned (.int .i64 (idxOf x xs 0)) ∧ Below w.heap.size w w' := by
  rcases ho.open with ⟨rfl, rfl⟩ | ⟨b, c, rfl, hlt, hc⟩
  · clear ho
    go_enter Try.func58, Try.ntmps58
    go_wp2_with fail
    refine wp_loop_rounds 1 ?_; rw [rounds_succ]
    go_wp2
    go_ret
    exact ⟨rfl, (Below.refl _ _).alloc (Nat.le_refl _) _⟩
  · obtain ⟨n, hn⟩ : ∃ n, n = xs.length := ⟨_, rfl⟩
    rw [← hn] at hm hc ⊢
    have HN := Lib.hid hn
    have HC : Hid (∀ i, i < n → (w.alloc (.cells #[.slice (some ⟨b, 0, none⟩) n c, .int .i64 most] 43)).cell? ⟨b, i * 2, none⟩ = some (.int .u32 (xs.getD i 0))) := fun i hi => by
      rw [((Below.refl w.heap.size w).alloc (Nat.le_refl _) _).cell (p := ⟨b, i * 2, none⟩) hlt]
      exact (hc i hi).1
    clear hn hc ho
    go_enter Try.func58, Try.ntmps58
    go_wp2_with fail
    go_loop [5] (fun i => ∃ k : Nat, k ≤ n ∧ i = .int .i64 k ∧ Hid (∀ j, j < k → x ≠ xs.getD j 0)) (fun i => n - (intOf i).toNat)
    case atStart => exact ⟨0, Nat.zero_le _, rfl, fun j hj => absurd hj (by omega)⟩
    case round =>
      obtain ⟨k, hk, rfl, HM⟩ := hrel
      by_cases hltk : k < n
      · have hck := HC.out k hltk
        by_cases hx : x = xs.getD k 0
        · have hfin := Lib.hid (idxOf_hit x xs 0 k (by rw [← HN.out]; exact hltk) HM.out hx)
          have hb : (xs.getD k 0 == x) = true := by simpa using hx.symm
          clear hx
          generalize xs.getD k 0 = y at hck hb
          go_wp2
          go_ret
          exact ⟨by rw [hfin.out]; simp, (Below.refl _ _).alloc (Nat.le_refl _) _⟩
        · have hnext : Hid (∀ j, j < k + 1 → x ≠ xs.getD j 0) := fun j hj => by
            by_cases e : j = k
            · subst e; exact hx
            · exact HM.out j (by omega)
          have hb : (xs.getD k 0 == x) = false := by simpa using fun h => hx h.symm
          clear hx HM
          generalize xs.getD k 0 = y at hck hb
          go_wp2
          go_round
          case rel => exact ⟨k + 1, by omega, by go_num, hnext⟩
          case measure => simp [intOf]; omega
      · have hfin := Lib.hid (idxOf_miss x xs 0 (fun j hj => HM.out j (by have := HN.out; omega)))
        have hge : ¬ ((k : Int) < (n : Int)) := by omega
        go_wp2_with fail
        go_ret
        exact ⟨by rw [hfin.out]; rfl, (Below.refl _ _).alloc (Nat.le_refl _) _⟩
theorem flatR_len (xs : List Int) : (xs.flatMap idCs).length = xs.length * 2 := by
  induction xs with
  | nil => rfl
  | cons t r ih => rw [List.flatMap_cons, List.length_append, ih, List.length_cons, show (idCs t).length = 2 from rfl]; omega
/-- one id more, as a step of a region that draws -/
theorem step_append_id {ops : Array Oper} {o : Oper} {a : Act} {w : World} {K : Act → World → Prop} {Q : Exit → Act → World → Prop} {E : Prop} (hgd : o.guard = none) (s x : Operand)
    (hop : o.op = Op.call { callee := Callee.builtin Builtin.append, args := #[s, x], argTypes := #[41, 41] }) (base : Nat) (A : Option Addr) (n c : Nat) (xs : List Int) (y : Int) (b : Nat)
    (hs : a.eval s = .slice A n c) (hx : a.eval x = .slice (some ⟨b, 0, none⟩) 1 1) (ho : OwnR w base (.slice A n c) xs) (hn : n = xs.length) (hb : Blk w b #[.int .u32 y, .int .i64 0] 119) (hm : xs.length ≤ 1000) (hbase : base ≤ w.heap.size)
    (hK : ∀ g cap w', OwnR w' base (.slice (some ⟨g, 0, none⟩) (n + 1) cap) (xs ++ [y]) → w.grownBy w' (Value.slice A n c).ownBlock → g < w'.heap.size → K (a.put o.dst (.slice (some ⟨g, 0, none⟩) (n + 1) cap)) w') :
    if Region.wanted o (yielded ops a.tmps) = true then Oper.wp Try.prog o a w K Q else E := by
  obtain ⟨i0, hi, hz0, hz1, hz2⟩ := info_parts info119
  subst hn
  refine step_append_lies w hgd s x _ hop base 119 i0 _ 2 16 Try.underlying41 hi hz0 hz1 hz2 rfl (by decide) (.slice A xs.length c) xs.length (xs.flatMap idCs) hs ho ⟨b, 0, none⟩ 1 1 [.int .u32 y, .int .i64 0] hx rfl (World.news_of_block (cs := #[.int .u32 y, .int .i64 0]) (t := 119) (fr := (0, 0)) hb) (by simp [Value.oneCell']) (by decide) (by unfold maxLen; omega) (by omega) hbase _ rfl ?_
  intro g cap w' h1 h2 h3 h4
  refine hK g cap w' ?_ h2 h4
  have e : (xs ++ [y]).flatMap idCs = xs.flatMap idCs ++ [.int .u32 y, .int .i64 0] := by rw [List.flatMap_append]; rfl
  unfold OwnR
  rw [e, List.length_append]
  exact h1
theorem KL_le {xs : List Int} {k : Nat} (h : (xs.take k).length = k) : (xs.take k).length ≤ xs.length := by rw [List.length_take]; exact Nat.min_le_right _ _
/-- what is appended to is no block of another type -/
theorem own_apart {w : World} {base : Nat} {e : TypeId} {size : Nat} {v : Value} {n : Nat} {xs : List Value} {g : Nat} {cs : Array Value} {t : TypeId} (h : w.ownsRow base e size v n xs) (hb : Blk w g cs t) (hne : e ≠ t := by decide) : ¬ (v.ownBlock = some g) := fun e1 => own_ne h hb hne _ e1 rfl
def DropR (w w' : World) (most : Int) (xs : List Int) (e : Ending) : Prop := ∃ v', e = .returned (.agg #[v', .int .i64 most]) ∧ OwnR w' w.heap.size v' xs ∧ Below w.heap.size w w'
set_option maxHeartbeats 3200000 in
set_option maxRecDepth 100000 in
/-- Drop, where the id does not stand: a copy. -/
theorem ref_drop (v : Value) (xs : List Int) (x most : Int) (base : Nat) (w : World) (ho : OwnR w base v xs) (hm : xs.length ≤ 1000) (hx : x ∉ xs) :
    Calls Try.prog 59 #[.agg #[v, .int .i64 most], .int .u32 x] w fun e w' => DropR w w' most xs e := by
  rcases ho.open with ⟨rfl, rfl⟩ | ⟨b, c, rfl, hlt, hc⟩
  · clear ho hx
    go_enter Try.func59, Try.ntmps59
    go_wp2_with fail
    refine wp_loop_rounds 1 ?_; rw [rounds_succ]
    go_wp2
    refine bodyPost_ret (v := .agg #[.slice none 0 0, .int .i64 most]) (by simp [results, Try.results59, go_sem]) rfl ?_
    exact ⟨_, rfl, World.ownsRow_nil _ _ _ _, (below_two w _ _).alloc (by simp; omega) _⟩
  · obtain ⟨n, hn⟩ : ∃ n, n = xs.length := ⟨_, rfl⟩
    rw [← hn] at hm hc ⊢
    have HN := Lib.hid hn
    have HC := Lib.hid hc
    have HX : Hid (∀ j, j < n → (xs.getD j 0 != x) = true) := fun j hj => by
      have : xs.getD j 0 ∈ xs := getD_mem _ _ _ (by omega)
      simpa using fun e => hx (by rw [← e]; exact this)
    clear hn hc ho hx
    obtain ⟨s, hs⟩ : ∃ s, s = w.heap.size := ⟨_, rfl⟩
    have HS := Lib.hid hs
    have HB3 : Hid (Below s w (((w.alloc (.cells #[.slice (some ⟨b, 0, none⟩) n c, .int .i64 most] 43)).alloc (.cells #[.slice none 0 0, .int .i64 0] 43)).alloc (.cells #[.slice none 0 0, .int .i64 most] 43))) := by rw [hs]; exact (below_two w _ _).alloc (by simp; omega) _
    have hal : Below ((w.alloc (.cells #[.slice (some ⟨b, 0, none⟩) n c, .int .i64 most] 43)).alloc (.cells #[.slice none 0 0, .int .i64 0] 43)).heap.size _ (((w.alloc (.cells #[.slice (some ⟨b, 0, none⟩) n c, .int .i64 most] 43)).alloc (.cells #[.slice none 0 0, .int .i64 0] 43)).alloc (.cells #[.slice none 0 0, .int .i64 most] 43)) := (Below.refl _ _).alloc (Nat.le_refl _) _
    have HP3 : Hid (Blk (((w.alloc (.cells #[.slice (some ⟨b, 0, none⟩) n c, .int .i64 most] 43)).alloc (.cells #[.slice none 0 0, .int .i64 0] 43)).alloc (.cells #[.slice none 0 0, .int .i64 most] 43)) s #[.slice (some ⟨b, 0, none⟩) n c, .int .i64 most] 43) := by rw [hs]; exact (two_blk w _ _ _ _).1.below hal
    have HR3 : Hid (Blk (((w.alloc (.cells #[.slice (some ⟨b, 0, none⟩) n c, .int .i64 most] 43)).alloc (.cells #[.slice none 0 0, .int .i64 0] 43)).alloc (.cells #[.slice none 0 0, .int .i64 most] 43)) (s + 1) #[.slice none 0 0, .int .i64 0] 43) := by rw [hs]; exact (two_blk w _ _ _ _).2.below hal
    have HO3 : Hid (Blk (((w.alloc (.cells #[.slice (some ⟨b, 0, none⟩) n c, .int .i64 most] 43)).alloc (.cells #[.slice none 0 0, .int .i64 0] 43)).alloc (.cells #[.slice none 0 0, .int .i64 most] 43)) (s + 1 + 1) #[.slice none 0 0, .int .i64 most] 43) := by
      rw [hs]
      have h : Blk _ _ _ _ := heap_alloc_new ((w.alloc (.cells #[.slice (some ⟨b, 0, none⟩) n c, .int .i64 most] 43)).alloc (.cells #[.slice none 0 0, .int .i64 0] 43)) (.cells #[.slice none 0 0, .int .i64 most] 43)
      show Blk _ _ _ _
      simpa using h
    clear hal hs
    go_enter Try.func59, Try.ntmps59
    go_wp2_with fail
    rw [← HS.out]
    go_loopw [6] (fun i W => ∃ (k : Nat) (v' : Value), k ≤ n ∧ i = .int .i64 k ∧ Hid (Blk W s #[.slice (some ⟨b, 0, none⟩) n c, .int .i64 most] 43) ∧ Hid (Blk W (s + 1) #[.slice none 0 0, .int .i64 0] 43) ∧ Hid (Blk W (s + 1 + 1) #[v', .int .i64 most] 43) ∧ Hid (OwnR W s v' (xs.take k)) ∧ Hid (Below s w W)) (fun i _ => n - (intOf i).toNat)
    case atStart => exact ⟨0, _, Nat.zero_le _, rfl, HP3, HR3, HO3, World.ownsRow_nil _ _ _ _, HB3⟩
    case round =>
      clear HP3 HR3 HO3 HB3
      obtain ⟨k, v', hk, rfl, HP, HR, HO, HW, HB⟩ := hrel
      obtain ⟨cP, fP⟩ := blk_rule HP.out
      by_cases hltk : k < n
      · have hq := HC.out k hltk
        have q0 := (HB.out.cell (p := ⟨b, k * 2, none⟩) (by rw [HS.out]; exact hlt)).trans hq.1
        have q1 := (HB.out.cell (p := ⟨b, k * 2 + 1, none⟩) (by rw [HS.out]; exact hlt)).trans hq.2
        have hne := HX.out k hltk
        have hkl : (xs.take k).length = k := by rw [List.length_take]; have := HN.out; omega
        have HNX : Hid (xs.take (k + 1) = xs.take k ++ [xs.getD k 0]) := by
          show _ = _
          rw [List.take_succ_eq_append_getElem (by rw [← HN.out]; exact hltk)]
          simp [List.getD, show k < xs.length by rw [← HN.out]; exact hltk]
        generalize xs.getD k 0 = y at q0 hne HNX
        obtain ⟨A', c', rfl⟩ := HW.out.form
        rw [hkl] at HW HO
        have HKL := Lib.hid hkl
        have lb : b < wr.heap.size := cell_lt q0
        have lo := HO.out.lt
        have lP := HP.out.lt
        obtain ⟨cO, fO⟩ := blk_rule HO.out
        have ha : Below wr.heap.size wr ((wr.alloc (.cells #[.int .u32 y, .int .i64 0] 119)).drew) := ((Below.refl _ _).alloc (Nat.le_refl _) _).drew
        have HY : Hid (Blk ((wr.alloc (.cells #[.int .u32 y, .int .i64 0] 119)).drew) wr.heap.size #[.int .u32 y, .int .i64 0] 119) := by show Blk _ _ _ _; exact Blk.below (heap_alloc_new wr _) ((Below.refl _ _).drew)
        have HW3 : Hid (OwnR ((wr.alloc (.cells #[.int .u32 y, .int .i64 0] 119)).drew) s (.slice A' k c') (xs.take k)) := own_below HW.out ha
        have HP3 := Lib.hid (HP.out.below ha)
        have HR3 := Lib.hid (HR.out.below ha)
        have HO3 := Lib.hid (HO.out.below ha)
        have lbs : b < s := by rw [HS.out]; exact hlt
        have HSW : Hid (s ≤ wr.heap.size) := by show _ ≤ _; omega
        have HB3 := Lib.hid (HB.out.trans (ha.mono HSW.out))
        have HNB : Hid (¬ ((Value.slice A' k c').ownBlock = some b)) := fun e => by obtain ⟨_, _, h⟩ := own_blk HW.out e; have := HS.out; omega
        have q0' := (ha.cell (p := ⟨b, k * 2, none⟩) lb).trans q0
        have q1' := (ha.cell (p := ⟨b, k * 2 + 1, none⟩) lb).trans q1
        have HQ0 := Lib.hid q0'
        have HQ1 := Lib.hid q1'
        have HLB : Hid (b < ((wr.alloc (.cells #[.int .u32 y, .int .i64 0] 119)).drew).heap.size) := Nat.lt_of_lt_of_le lb ha.size
        have HT : Hid ((xs.take k).length ≤ 1000) := by show _ ≤ _; have := KL_le HKL.out; omega
        clear hq hkl ha q0' q1'
        go_wp2_with fail
        go_region_law ((refine step_append_id rfl (.tmp 26) (.tmp 32) rfl s A' k c' (xs.take k) y wr.heap.size (by simp [Act.eval, Act.put]) (by simp [Act.eval, Act.put]) HW3.out HKL.out.symm HY.out HT.out (Nat.le_trans (Nat.le_of_eq HS.out) HB3.out.size) ?_; intro g cap w9 ho9 hgr hlt9; have hO9 := HO3.out.kept (kept_of_grown hgr) (own_apart HW3.out HO3.out); have hP9 := HP3.out.kept (kept_of_grown hgr) (own_apart HW3.out HP3.out); obtain ⟨cO9, fO9⟩ := blk_rule hO9; obtain ⟨cP9, fP9⟩ := blk_rule hP9; have hk9 := kept_of_grown hgr; have q09 := (hk9.cell (p := ⟨b, k * 2, none⟩) HLB.out HNB.out).trans HQ0.out; have q19 := (hk9.cell (p := ⟨b, k * 2 + 1, none⟩) HLB.out HNB.out).trans HQ1.out; have lO9 := hO9.lt))
        all_goals
          have HR9 := Lib.hid ((HR3.out.kept hk9 (own_apart HW3.out HR3.out)))
          have HOO := Lib.hid hO9
          have HPP := Lib.hid hP9
          have HWW := Lib.hid ho9
          have HBB := Lib.hid (HB3.out.grown hgr (Nat.le_trans (Nat.le_of_eq HS.out) HB3.out.size) (fun j e => by obtain ⟨_, _, h⟩ := own_blk HW3.out e; exact h))
          clear cO9 fO9 cP9 fP9 q09 q19 hk9 hgr hP9 hO9 ho9 hlt9 lO9
          go_wp2
          go_roundw
          case rel =>
            have hn : ∀ j, (Value.slice (some ⟨g, 0, none⟩) (k + 1) cap).ownBlock = some j → j ≠ s + 1 + 1 := fun j hj => own_ne HWW.out HOO.out (by decide) j hj
            have hkk : Kept w9 (w9.setCell ⟨s + 1 + 1, 0, none⟩ (.slice (some ⟨g, 0, none⟩) (k + 1) cap)) (fun j => j = s + 1 + 1) := Kept.setCell (S := fun j => j = s + 1 + 1) (Kept.refl _ _) (fun _ => rfl) _
            refine ⟨k + 1, .slice (some ⟨g, 0, none⟩) (k + 1) cap, by omega, by go_num, HPP.out.kept hkk (by omega), HR9.out.kept hkk (by omega), ?_, ?_, HBB.out.setCell (by simp; omega) _⟩
            · exact blk_setCell (cur := [.slice A' k c', .int .i64 most]) HOO.out 0 _
            · have h1 := HWW.out
              rw [← HNX.out] at h1
              exact own_setCell h1 hn _
          case measure => simp [intOf]; omega
      · have hge : ¬ ((k : Int) < (n : Int)) := by omega
        obtain ⟨cR, fR⟩ := blk_rule HR.out
        obtain ⟨cO, fO⟩ := blk_rule HO.out
        obtain ⟨A', c', rfl⟩ := HW.out.form
        have HE : Hid (xs.take k = xs) := List.take_of_length_le (by have := HN.out; omega)
        have hlR := HR.out.lt
        go_wp2_with fail
        refine bodyPost_ret (v := .agg #[.slice A' (xs.take k).length c', .int .i64 most]) (by simp [results, Try.results59, go_sem, cR]) rfl ?_
        have ho := HW.out
        rw [HE.out] at ho ⊢
        have h1 : OwnR wr w.heap.size (.slice A' xs.length c') xs := by rw [← HS.out]; exact ho
        have h2 := HB.out
        rw [HS.out] at h2
        have hr := HR.out
        rw [HS.out]
        have hn : ∀ j, (Value.slice A' xs.length c').ownBlock = some j → j ≠ s + 1 := fun j hj => own_ne ho hr (by decide) j hj
        rw [HS.out] at hn
        refine ⟨_, rfl, own_setCell (own_setCell h1 hn _) hn _, (h2.setCell (by simp) _).setCell (by simp) _⟩
end Go.Proofs.Ytlkpmlcmgggifaa
