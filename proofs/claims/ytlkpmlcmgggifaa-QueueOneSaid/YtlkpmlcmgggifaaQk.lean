/- A new queue. -/
import Derived.Test.YtlkpmlcmgggifaaQi
import Derived.Test.YtlkpmlcmgggifaaQj
import Derived.BigRegion
set_option linter.unusedVariables false
set_option linter.unusedSimpArgs false
namespace Go.Proofs.Ytlkpmlcmgggifaa
open Go.RowKit
structure Md where
  k : Int
  b : Int
  s : Int
  c : Int
  e : Int
def Md.zero : Md := ⟨0, 0, 0, 0, 0⟩
def Md.cs (m : Md) : List Value := [.int .i64 m.k, .int .i64 m.b, .int .i64 m.s, .int .i64 m.c, .int .i64 m.e]
/-- v shows the modes ms. -/
def ShowsM (w : World) (v : Value) (ms : List Md) : Prop :=
  ∃ A c, v = .slice A ms.length c ∧ (0 < ms.length → ∃ b, A = some ⟨b, 0, none⟩ ∧ b < w.heap.size ∧ ∀ i, i < ms.length → w.cell? ⟨b, i * 5, none⟩ = some (.int .i64 (ms.getD i Md.zero).k) ∧ w.cell? ⟨b, i * 5 + 1, none⟩ = some (.int .i64 (ms.getD i Md.zero).b) ∧ w.cell? ⟨b, i * 5 + 2, none⟩ = some (.int .i64 (ms.getD i Md.zero).s) ∧ w.cell? ⟨b, i * 5 + 3, none⟩ = some (.int .i64 (ms.getD i Md.zero).c) ∧ w.cell? ⟨b, i * 5 + 4, none⟩ = some (.int .i64 (ms.getD i Md.zero).e))
theorem info3 : (Try.prog.info? 3).map (fun i => (i.zero, i.size, i.bytes)) = some (some (.int .i64 0), 1, 8) := by kernel_rfl
def NewRes (w w' : World) (ms : List Md) (e : Ending) : Prop :=
  ∃ g vs, e = .returned (.pointer (some ⟨g, 0, none⟩)) ∧ QRep w' w.heap.size g (.slice none 0 0) vs [] (ms.map Md.k) ∧ Below w.heap.size w w'
set_option maxHeartbeats 3200000 in
set_option maxRecDepth 100000 in
theorem new_any (w : World) (k0 k1 k2 k3 k4 k5 k6 k7 k8 k9 k10 k11 k12 : Value) (h0 : k0.oneCell' = true) (h1 : k1.oneCell' = true) (h2 : k2.oneCell' = true) (h3 : k3.oneCell' = true) (h4 : k4.oneCell' = true) (h5 : k5.oneCell' = true) (h6 : k6.oneCell' = true) (h7 : k7.oneCell' = true) (h8 : k8.oneCell' = true) (h9 : k9.oneCell' = true) (h10 : k10.oneCell' = true) (h11 : k11.oneCell' = true) (h12 : k12.oneCell' = true)
    (v : Value) (ms : List Md) (hs : ShowsM w v ms) (hmany : ms.length ≤ 1000) :
    Calls Try.prog 8 #[.agg #[k0, k1, k2, k3, k4, k5, k6, k7, k8, k9, k10, k11, k12, v]] w fun e w' => NewRes w w' ms e := by
  obtain ⟨i0, hi, hz0, hz1, hz2⟩ := info_parts info3
  have HI := Lib.hid hi
  have HZ0 := Lib.hid hz0
  have HZ1 := Lib.hid hz1
  have HZ2 := Lib.hid hz2
  clear hi hz0 hz1 hz2
  obtain ⟨A, c, rfl, hA⟩ := hs
  by_cases hpos : 0 < ms.length
  · obtain ⟨b, rfl, hlt, hc⟩ := hA hpos
    have HC := Lib.hid hc
    have HL := Lib.hid hlt
    obtain ⟨n, hn⟩ : ∃ n, n = ms.length := ⟨_, rfl⟩
    rw [← hn] at hmany hpos HC ⊢
    have HN := Lib.hid hn
    clear hc hA hn hlt
    obtain ⟨bX, bQ⟩ := two_blk w #[k0, k1, k2, k3, k4, k5, k6, k7, k8, k9, k10, k11, k12, .slice (some ⟨b, 0, none⟩) n c] #[.slice none 0 0, .slice none 0 0] 29 106
    have BX := Lib.hid bX
    have BQ := Lib.hid bQ
    clear bX bQ
    have B0 := Lib.hid (below_two w (.cells #[k0, k1, k2, k3, k4, k5, k6, k7, k8, k9, k10, k11, k12, .slice (some ⟨b, 0, none⟩) n c] 29) (.cells #[.slice none 0 0, .slice none 0 0] 106))
    go_enter Try.func8, Try.ntmps8
    go_wp2_with fail
    go_loopw [11] (fun i W => ∃ (k : Nat) (vs : Value), k ≤ n ∧ i = .int .i64 k ∧ Hid (Blk W (w.heap.size + 1) #[.slice none 0 0, vs] 106) ∧ Hid (OwnN W w.heap.size 3 .i64 vs ((ms.take k).map Md.k)) ∧ Hid (Below w.heap.size w W)) (fun i _ => n - (intOf i).toNat)
    case atStart => exact ⟨0, _, Nat.zero_le _, rfl, BQ.out, World.ownsRow_nil _ _ _ _, B0.out⟩
    case round =>
      obtain ⟨k, vs, hk, rfl, HQ, HO, HB⟩ := hrel
      by_cases hltk : k < n
      · obtain ⟨c0, c1, c2, c3, c4⟩ := HC.out k hltk
        have b0 := (HB.out.cell (p := ⟨b, k * 5, none⟩) HL.out).trans c0
        have b1 := (HB.out.cell (p := ⟨b, k * 5 + 1, none⟩) HL.out).trans c1
        have b2 := (HB.out.cell (p := ⟨b, k * 5 + 2, none⟩) HL.out).trans c2
        have b3 := (HB.out.cell (p := ⟨b, k * 5 + 3, none⟩) HL.out).trans c3
        have b4 := (HB.out.cell (p := ⟨b, k * 5 + 4, none⟩) HL.out).trans c4
        clear c0 c1 c2 c3 c4
        obtain ⟨m, hm⟩ : ∃ m, m = ms.getD k Md.zero := ⟨_, rfl⟩
        rw [← hm] at b0 b1 b2 b3 b4
        have HM := Lib.hid hm
        clear hm
        obtain ⟨va, cq, rfl⟩ : ∃ va cq, vs = .slice va k cq := by
          have hkl : ((ms.take k).map Md.k).length = k := by rw [List.length_map, List.length_take]; have := HN.out; omega
          rcases HO.out.2 with ⟨rfl, h0⟩ | ⟨g, cap, cur, rfl, _⟩
          · exact ⟨none, 0, by rw [← hkl, h0]⟩
          · exact ⟨_, cap, by rw [hkl]⟩
        go_wp2_with fail
        have hbx := heap_alloc_new wr (.cells #[.int .i64 m.k, .int .i64 m.b, .int .i64 m.s, .int .i64 m.c, .int .i64 m.e] 32)
        obtain ⟨W1, hW1⟩ : ∃ W1, W1 = wr.alloc (.cells #[.int .i64 m.k, .int .i64 m.b, .int .i64 m.s, .int .i64 m.c, .int .i64 m.e] 32) := ⟨_, rfl⟩
        rw [← hW1] at hbx ⊢
        have hb1 : Below wr.heap.size wr W1 := by rw [hW1]; exact (Below.refl _ _).alloc (Nat.le_refl _) _
        have hQ1 := HQ.out.below hb1
        obtain ⟨cQ, fQ⟩ := blk_rule hQ1
        have hX1 : Blk W1 wr.heap.size _ _ := hbx
        have cX := hX1.cell 0
        simp only [List.getElem?_toArray, List.getElem?_cons_zero] at cX
        have hkl : ((ms.take k).map Md.k).length = k := by rw [List.length_map, List.length_take]; have := HN.out; omega
        have ho1 : W1.ownsRow w.heap.size 3 1 (.slice va k cq) k (((ms.take k).map Md.k).map (Value.int .i64)) := by
          have h := own_below HO.out hb1
          rw [hkl] at h
          exact h
        have HO3 := Lib.hid (own_below ho1 (((Below.refl _ _).alloc (Nat.le_refl _) (.cells #[.int .i64 m.k] 3)).drew))
        have HB1 := Lib.hid (HB.out.trans (hb1.mono HB.out.size))
        have HB3 := Lib.hid ((HB1.out.alloc HB1.out.size (.cells #[.int .i64 m.k] 3)).drew)
        have HQ3 := Lib.hid (hQ1.below (((Below.refl _ _).alloc (Nat.le_refl _) (.cells #[.int .i64 m.k] 3)).drew))
        have hlt1 := hQ1.lt
        have hltX := hX1.lt
        clear hb1 hQ1 hX1 hbx hW1 ho1 HQ HO HB b0 b1 b2 b3 b4
        go_region_law ((refine step_append_lies _ (by rfl) _ _ _ (by rfl) w.heap.size 3 i0 _ 1 8 Try.underlying104 HI.out HZ0.out HZ1.out HZ2.out rfl (by decide) (.slice va k cq) k (((ms.take k).map Md.k).map (Value.int .i64)) (by simp [Act.eval, Act.put]) HO3.out ⟨W1.heap.size, 0, none⟩ 1 1 [.int .i64 m.k] (by simp [Act.eval, Act.put]) (by rfl) (World.news_of_block (cs := #[.int .i64 m.k]) (t := 3) (fr := (0, 0)) (heap_alloc_new W1 _)) (by simp [Value.oneCell']) (by decide) (by unfold maxLen; omega) (by omega) HB3.out.size _ rfl ?_; intro gg cap w1 hown1 hgrow hat hlt; have hQw := HQ3.out.kept (kept_of_grown hgrow) (fun e => own_ne HO3.out HQ3.out (by decide) _ e rfl); obtain ⟨cW, fW⟩ := blk_rule hQw))
        all_goals
          have hkept := kept_of_grown hgrow
          have HOW := Lib.hid hown1
          have HQW := Lib.hid hQw
          have HBW := Lib.hid (HB3.out.grown hgrow HB3.out.size (fun kk e => (own_blk HO3.out e).choose_spec.2))
          have hggQ : gg ≠ w.heap.size + 1 := own_ne hown1 hQw (by decide) gg rfl
          clear hown1 hgrow hat hlt hQw hkept
          go_wp2
          go_roundw
          case rel =>
            refine ⟨k + 1, .slice (some ⟨gg, 0, none⟩) (k + 1) cap, by omega, by go_num, ?_, ?_, HBW.out.setCell (by simp) _⟩
            · have := blk_setCell (cur := [.slice none 0 0, .slice va k cq]) HQW.out 1 (.slice (some ⟨gg, 0, none⟩) (k + 1) cap)
              exact this
            · have h2 := own_setCell HOW.out (a := ⟨w.heap.size + 1, 1, none⟩) (fun kk e => by simp [Value.ownBlock] at e; subst e; exact hggQ) (.slice (some ⟨gg, 0, none⟩) (k + 1) cap)
              have h3 : (ms.take (k + 1)).map Md.k = (ms.take k).map Md.k ++ [m.k] := by
                rw [List.take_succ_eq_append_getElem (by rw [← HN.out]; exact hltk), List.map_append, HM.out]
                simp [List.getD, show k < ms.length by rw [← HN.out]; exact hltk]
              show World.ownsRow _ _ _ _ _ _ _
              rw [h3, List.length_append, hkl, List.map_append]
              exact h2
          case measure => simp [intOf]; omega
      · have hge : ¬ ((k : Int) < (n : Int)) := by omega
        have hkn : k = n := by omega
        subst hkn
        go_wp2_with fail
        go_ret
        have ht : ms.take k = ms := List.take_of_length_le (by have := HN.out; omega)
        exact ⟨w.heap.size + 1, vs, rfl, ⟨HQ.out, by omega, World.ownsRow_nil _ _ _ _, (by have := HO.out; rw [ht] at this; exact this), (fun t ht => by cases ht), (fun t ht => by cases ht)⟩, HB.out⟩
  · obtain rfl : ms = [] := List.eq_nil_of_length_eq_zero (by omega)
    clear hA hpos
    obtain ⟨bX, bQ⟩ := two_blk w #[k0, k1, k2, k3, k4, k5, k6, k7, k8, k9, k10, k11, k12, .slice A 0 c] #[.slice none 0 0, .slice none 0 0] 29 106
    have BQ := Lib.hid bQ
    have B0 := Lib.hid (below_two w (.cells #[k0, k1, k2, k3, k4, k5, k6, k7, k8, k9, k10, k11, k12, .slice A 0 c] 29) (.cells #[.slice none 0 0, .slice none 0 0] 106))
    clear bX bQ
    simp only [List.length_nil]
    go_enter Try.func8, Try.ntmps8
    go_wp2_with fail
    refine wp_loop_rounds 1 ?_; rw [rounds_succ]
    go_wp2
    go_ret
    exact ⟨w.heap.size + 1, _, rfl, ⟨BQ.out, by omega, World.ownsRow_nil _ _ _ _, World.ownsRow_nil _ _ _ _, (fun t ht => by cases ht), (fun t ht => by cases ht)⟩, B0.out⟩
end Go.Proofs.Ytlkpmlcmgggifaa
