/- A mode's tickets. -/
import Derived.Test.YtlkpmlcmgggifaaQg
set_option linter.unusedVariables false
set_option linter.unusedSimpArgs false
namespace Go.Proofs.Ytlkpmlcmgggifaa
open Go.RowKit
theorem info39 : (Try.prog.info? 39).map (fun i => (i.zero, i.size, i.bytes)) = some (some (.agg #[.int .u32 0, .int .i64 0, .slice none 0 0, .int .i64 0, .int .i64 0]), 5, 56) := by kernel_rfl
/-- What a ticket is, wherever its players lie. -/
def Tk.key (t : Tk) : Int × Int × List Int × Int × Int := (t.id, t.mode, t.pl, t.rating, t.since)
/-- Own tickets in a row of the call's own. -/
structure ORow (w : World) (base : Nat) (v : Value) (ts : List Tk) : Prop where
  row : w.ownsRow base 39 5 v ts.length (ts.flatMap Tk.cs)
  pls : ∀ t ∈ ts, OwnN w base 33 .u32 t.pv t.pl
theorem ORow.below {w w' : World} {base : Nat} {v : Value} {ts : List Tk} (h : ORow w base v ts) (hb : Below w.heap.size w w') : ORow w' base v ts :=
  ⟨own_below h.row hb, fun t ht => own_below (h.pls t ht) hb⟩
theorem ORow.kept {w w' : World} {S : Nat → Prop} {base : Nat} {v : Value} {ts : List Tk} (h : ORow w base v ts) (hk : Kept w w' S) (hv : ∀ k, v.ownBlock = some k → ¬ S k) (hn : ∀ k cur, base ≤ k → Blk w k cur 33 → ¬ S k) : ORow w' base v ts :=
  ⟨own_kept h.row hk hv, fun t ht => own_kept (h.pls t ht) hk (fun k e => by obtain ⟨cur, hb, hg⟩ := own_blk (h.pls t ht) e; exact hn _ _ hg hb)⟩
def ModeRes (w w' : World) (fs : List Tk) (e : Ending) : Prop :=
  ∃ v' ts', e = .returned v' ∧ ORow w' w.heap.size v' ts' ∧ ts'.map Tk.key = fs.map Tk.key ∧ Below w.heap.size w w'
theorem cs_one (t : Tk) (h : t.pv.oneCell' = true) : ∀ u ∈ t.cs, u.oneCell' = true := by
  intro u hu
  simp only [Tk.cs, List.mem_cons, List.not_mem_nil, or_false] at hu
  rcases hu with rfl | rfl | rfl | rfl | rfl <;> first | rfl | exact h
theorem filter_take_succ {α : Type} (d : α) (p : α → Bool) (xs : List α) (k : Nat) (hk : k < xs.length) : (xs.take (k + 1)).filter p = (xs.take k).filter p ++ if p (xs.getD k d) = true then [xs.getD k d] else [] := by
  rw [List.take_succ_eq_append_getElem hk, List.filter_append]
  congr 1
  cases hp : p xs[k] <;> simp [List.getD, hk, hp]
set_option maxHeartbeats 3200000 in
set_option maxRecDepth 100000 in
theorem mode_some (base g : Nat) (va vs : Value) (ts : List Tk) (sizes : List Int) (m : Int) (w : World) (hq : QRep w base g va vs ts sizes) (hmany : ts.length ≤ 1000) :
    Calls Try.prog 12 #[.pointer (some ⟨g, 0, none⟩), .int .i64 m] w fun e w' => ModeRes w w' (ts.filter (fun t => t.mode == m)) e := by
  have h0 := hq.blk.cell 0
  simp only [List.getElem?_toArray, List.getElem?_cons_zero] at h0
  obtain ⟨i0, hi, hz0, hz1, hz2⟩ := info_parts info39
  have HI := Lib.hid hi
  have HZ0 := Lib.hid hz0
  have HZ1 := Lib.hid hz1
  have HZ2 := Lib.hid hz2
  clear hi hz0 hz1 hz2
  have hnn : ∀ (a : Addr) (w : World), (binOp .neq 23 (.pointer (some a)) (.pointer none)).run Try.prog w = .ok (.bool true) w := fun a w => by simp [go_sem]
  rcases own_trow hq.all with ⟨rfl, rfl⟩ | ⟨b, c, rfl, hm, hblt, ht⟩
  · clear hq
    go_enter Try.func12, Try.ntmps12
    go_wp2_with fail
    refine wp_loop_rounds 1 ?_; rw [rounds_succ]
    go_wp2
    go_ret
    exact ⟨_, [], rfl, ⟨World.ownsRow_nil _ _ _ _, fun t ht => by cases ht⟩, rfl, Below.refl _ _⟩
  · have HQ := Lib.hid hq
    have HT := Lib.hid ht
    obtain ⟨n, hn⟩ : ∃ n, n = ts.length := ⟨_, rfl⟩
    rw [← hn] at hmany h0 HT
    have HN := Lib.hid hn
    clear hq ht hm hn
    go_enter Try.func12, Try.ntmps12
    go_wp2_with fail
    go_loopw [5, 15] (fun o i W => ∃ (k : Nat) (ts' : List Tk), k ≤ n ∧ i = .int .i64 k ∧ Hid (ORow W w.heap.size o ts') ∧ Hid (ts'.map Tk.key = ((ts.take k).filter (fun t => t.mode == m)).map Tk.key) ∧ Hid (Below w.heap.size w W)) (fun _ i _ => n - (intOf i).toNat)
    case atStart => exact ⟨0, [], Nat.zero_le _, rfl, ⟨World.ownsRow_nil _ _ _ _, fun t ht => by cases ht⟩, rfl, Below.refl _ _⟩
    case round =>
      obtain ⟨k, ts', hk, rfl, HO, HK, HB⟩ := hrel
      by_cases hlt : k < n
      · have hrw := HT.out.below HB.out
        have k0 := hrw.c0 k hlt
        have k1 := hrw.c1 k hlt
        have k2 := hrw.c2 k hlt
        have k3 := hrw.c3 k hlt
        have k4 := hrw.c4 k hlt
        simp only [Nat.zero_add] at k0 k1 k2 k3 k4
        have HF := Lib.hid (filter_take_succ Tk.zero (fun t => t.mode == m) ts k (by rw [← HN.out]; exact hlt))
        have htm : ts.getD k Tk.zero ∈ ts := getD_mem _ _ _ (by rw [← HN.out]; exact hlt)
        have HS : Hid (Shows wr .u32 (ts.getD k Tk.zero).pv (ts.getD k Tk.zero).pl) := (HQ.out.pls _ htm).shows.below HB.out
        have HW := Lib.hid (HQ.out.few _ htm)
        have h1c := shows_oneCell HS.out
        clear hrw htm
        generalize ts.getD k Tk.zero = t at k0 k1 k2 k3 k4 h1c HS HW HF
        obtain ⟨A, cp, hpv, _⟩ := HS.out.form
        have HS2 : Hid (Shows wr .u32 (.slice A t.pl.length cp) t.pl) := by rw [← hpv]; exact HS.out
        rw [hpv] at k2
        clear hpv HS h1c
        cases hmd : (t.mode == m) with
        | false =>
          have HK2 : Hid (ts'.map Tk.key = ((ts.take (k + 1)).filter (fun t => t.mode == m)).map Tk.key) := by
            show _ = _
            rw [HF.out, HK.out]; simp [hmd]
          have HO2 := Lib.hid (HO.out.below ((Below.refl _ _).alloc (Nat.le_refl _) (.cells #[.int .u32 t.id, .int .i64 t.mode, .slice A t.pl.length cp, .int .i64 t.rating, .int .i64 t.since] 39)))
          have HB2 := Lib.hid (HB.out.alloc HB.out.size (.cells #[.int .u32 t.id, .int .i64 t.mode, .slice A t.pl.length cp, .int .i64 t.rating, .int .i64 t.since] 39))
          clear HK HO HB HF
          go_wp2_with fail
          go_roundw
          case rel => exact ⟨k + 1, ts', by omega, by go_num, HO2, HK2, HB2⟩
          case measure => simp [intOf]; omega
        | true =>
          have HK2 : Hid (ts'.map Tk.key ++ [t.key] = ((ts.take (k + 1)).filter (fun t => t.mode == m)).map Tk.key) := by
            show _ = _
            rw [HF.out, HK.out]; simp [hmd]
          have HLen : Hid (ts'.length ≤ 1000) := by
            have h1 := congrArg List.length HK.out
            simp only [List.length_map] at h1
            have h2 := List.length_filter_le (fun t : Tk => t.mode == m) (ts.take k)
            have h3 : (ts.take k).length ≤ k := List.length_take_le _ _
            show _ ≤ _
            omega
          have HO2 := Lib.hid (HO.out.below ((Below.refl _ _).alloc (Nat.le_refl _) (.cells #[.int .u32 t.id, .int .i64 t.mode, .slice A t.pl.length cp, .int .i64 t.rating, .int .i64 t.since] 39)))
          have HB2 := Lib.hid (HB.out.alloc HB.out.size (.cells #[.int .u32 t.id, .int .i64 t.mode, .slice A t.pl.length cp, .int .i64 t.rating, .int .i64 t.since] 39))
          have HS3 := Lib.hid (HS2.out.below ((Below.refl _ _).alloc (Nat.le_refl _) (.cells #[.int .u32 t.id, .int .i64 t.mode, .slice A t.pl.length cp, .int .i64 t.rating, .int .i64 t.since] 39)))
          clear HK HO HB HF HS2
          go_wp2_with (first
            | (go_at_call 56; refine (own_any _ _ _ _ _ t.pl _ HS3.out HW.out).mono ?_; rintro e w2 ⟨pv', rfl, hown, hb'⟩
               obtain ⟨A', c', rfl, _⟩ := hown.shows.form
               have HOW := Lib.hid (own_mono (own_below hown ((Below.refl _ _).alloc (Nat.le_refl _) (.cells #[.int .u32 t.id, .int .i64 t.mode, .slice A' t.pl.length c', .int .i64 t.rating, .int .i64 t.since] 39))) HB2.out.size)
               have HO3 := Lib.hid ((HO2.out.below hb').below ((Below.refl _ _).alloc (Nat.le_refl _) (.cells #[.int .u32 t.id, .int .i64 t.mode, .slice A' t.pl.length c', .int .i64 t.rating, .int .i64 t.since] 39)))
               have hb2 := HB2.out.trans (hb'.mono HB2.out.size)
               have HB3 := Lib.hid (hb2.alloc hb2.size (.cells #[.int .u32 t.id, .int .i64 t.mode, .slice A' t.pl.length c', .int .i64 t.rating, .int .i64 t.since] 39))
               clear hown hb' hb2)
            | (at_builtin; refine wpList_append_own _ rfl (.tmp 23) (.tmp 26) 44 rfl w.heap.size 39 i0 _ 5 56 Try.underlying44 HI.out HZ0.out HZ1.out HZ2.out rfl (by decide) _ ts'.length (ts'.flatMap Tk.cs) rfl HO3.out.row ⟨w2.heap.size, 0, none⟩ 1 1 [.int .u32 t.id, .int .i64 t.mode, .slice A' t.pl.length c', .int .i64 t.rating, .int .i64 t.since] rfl rfl
                 (World.news_of_block (cs := #[.int .u32 t.id, .int .i64 t.mode, .slice A' t.pl.length c', .int .i64 t.rating, .int .i64 t.since]) (t := 39) (fr := (0, 0)) (heap_alloc_new w2 _)) (by simp [Value.oneCell']) (by have := HLen.out; unfold maxLen; omega) (by have := HLen.out; omega) HB3.out.size ?_
               intro v' w3 hown3 hg3 hnil))
          go_roundw
          case rel =>
            refine ⟨k + 1, ts' ++ [⟨t.id, t.mode, .slice A' t.pl.length c', t.pl, t.rating, t.since⟩], by omega, by go_num, ⟨?_, ?_⟩, ?_, ?_⟩
            · rw [List.length_append, List.flatMap_append]; exact hown3
            · intro t' ht'
              rcases List.mem_append.1 ht' with h | h
              · exact own_kept (HO3.out.pls t' h) (kept_of_grown hg3) (fun k hk e => by
                  obtain ⟨c1, b1, _⟩ := own_blk (HO3.out.pls t' h) hk
                  obtain ⟨c2, b2, _⟩ := own_blk HO3.out.row e
                  exact absurd rfl (b1.ne b2 (by decide)))
              · rw [List.mem_singleton.1 h]
                exact own_kept HOW.out (kept_of_grown hg3) (fun k hk e => by
                  obtain ⟨c1, b1, _⟩ := own_blk HOW.out hk
                  obtain ⟨c2, b2, _⟩ := own_blk HO3.out.row e
                  exact absurd rfl (b1.ne b2 (by decide)))
            · show List.map Tk.key (ts' ++ [_]) = _
              rw [← HK2.out, List.map_append]; rfl
            · exact HB3.out.grown hg3 HB3.out.size (fun k hk => by obtain ⟨c2, b2, h2⟩ := own_blk HO3.out.row hk; exact h2)
          case measure => simp [intOf]; omega
      · have hge : ¬ ((k : Int) < (n : Int)) := by omega
        have HE : Hid (ts.take k = ts) := List.take_of_length_le (by have := HN.out; omega)
        go_wp2
        go_ret
        exact ⟨_, ts', rfl, HO.out, by rw [HK.out, HE.out], HB.out⟩
end Go.Proofs.Ytlkpmlcmgggifaa
