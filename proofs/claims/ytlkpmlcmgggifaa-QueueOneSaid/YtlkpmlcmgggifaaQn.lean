/- Put. -/
import Derived.Test.YtlkpmlcmgggifaaQm
set_option linter.unusedVariables false
set_option linter.unusedSimpArgs false
namespace Go.Proofs.Ytlkpmlcmgggifaa
open Go.RowKit
set_option maxHeartbeats 8000000 in
set_option maxRecDepth 100000 in
theorem put_some (base g : Nat) (va vs : Value) (ts : List Tk) (sizes : List Int) (t : Tk) (w : World) (hq : QRep w base g va vs ts sizes) (hs : Shows w .u32 t.pv t.pl) (hf : t.pl.length ≤ 8) (hmany : ts.length ≤ 1000) (hsort : SortedT ts) (hbase : base ≤ w.heap.size) :
    Calls Try.prog 10 #[.pointer (some ⟨g, 0, none⟩), .agg #[.int .u32 t.id, .int .i64 t.mode, t.pv, .int .i64 t.rating, .int .i64 t.since]] w fun e w' => PutRes w w' base g va vs ts sizes t e := by
  obtain ⟨PA, pc, hpv, _⟩ := hs.form
  have HS : Hid (Shows w .u32 (.slice PA t.pl.length pc) t.pl) := by rw [← hpv]; exact hs
  rw [hpv]
  obtain ⟨SA, sc, rfl, hsz⟩ : ∃ SA sc, vs = .slice SA sizes.length sc ∧ ∀ m, m < sizes.length → ∃ gS, SA = some ⟨gS, 0, none⟩ ∧ gS < w.heap.size ∧ w.cell? ⟨gS, m, none⟩ = some (.int .i64 (sizes.getD m 0)) := by
    rcases hq.szs.2 with ⟨rfl, h0⟩ | ⟨gS, cap, cur, rfl, _, hgg, _⟩
    · exact ⟨none, 0, by rw [h0], fun m hm => by omega⟩
    · have h1 : w.ownsRow base 3 1 (.slice (some ⟨gS, 0, none⟩) sizes.length cap) sizes.length (sizes.map (Value.int .i64)) := hq.szs
      refine ⟨_, cap, rfl, fun m hm => ⟨gS, rfl, (Array.getElem?_eq_some_iff.1 hgg).1, ?_⟩⟩
      rw [h1.cellAt m (by omega)]
      simp [hm]
  have HSZ := Lib.hid hsz
  clear hsz
  have hgq := hq.blk.cell 1
  simp only [List.getElem?_toArray, List.getElem?_cons_zero, List.getElem?_cons_succ] at hgq
  have HGQ := Lib.hid hgq
  have HQ := Lib.hid hq
  have hglt := hq.lt
  have HF := Lib.hid hf
  have HSO := Lib.hid hsort
  have HBA := Lib.hid hbase
  have hnot : ∀ (x : Bool) (w : World), (Op.unary .not (.bool x)).run Try.prog w = .ok (.bool (!x)) w := fun _ _ => rfl
  obtain ⟨B, hB⟩ : ∃ B, B = w.heap.size := ⟨_, rfl⟩
  obtain ⟨W0, hW0⟩ : ∃ W0, W0 = w.alloc (.cells #[.int .u32 t.id, .int .i64 t.mode, .slice PA t.pl.length pc, .int .i64 t.rating, .int .i64 t.since] 39) := ⟨_, rfl⟩
  have HB0 : Hid (Below B w W0) := by rw [hW0, hB]; exact (Below.refl _ _).alloc (Nat.le_refl _) _
  have HT0 : Hid (Blk W0 B #[.int .u32 t.id, .int .i64 t.mode, .slice PA t.pl.length pc, .int .i64 t.rating, .int .i64 t.since] 39) := by rw [hW0, hB]; exact heap_alloc_new w _
  have HW0 := Lib.hid hW0
  have HBE := Lib.hid hB
  clear hq hs hf hsort hbase hW0 hB hgq
  obtain ⟨o, ho⟩ : ∃ o, o = ts.find? (fun y => y.id == t.id) := ⟨_, rfl⟩
  have HO := Lib.hid ho
  clear ho
  go_enter Try.func10, Try.ntmps10
  go_wp2_with fail
  rw [← HW0.out, ← HBE.out]
  refine (get_some base g va _ ts sizes t.id W0 (HQ.out.below (by rw [← HBE.out]; exact HB0.out))).mono ?_
  intro e w1 hgot
  obtain ⟨gi, gm, gA, gn, gc, gr, gs, rfl, hb1⟩ := got_form hgot
  have HT1 := Lib.hid (HT0.out.below hb1)
  have HB1 := Lib.hid (HB0.out.trans (hb1.mono (by have := HT0.out.lt; omega)))
  clear hgot hb1
  have HB1a := Lib.hid (HB1.out.alloc (by have := HT1.out.lt; omega) (.cells #[.int .u32 gi, .int .i64 gm, .slice gA gn gc, .int .i64 gr, .int .i64 gs] 39))
  have HT1a := Lib.hid (HT1.out.below ((Below.refl _ _).alloc (Nat.le_refl _) (.cells #[.int .u32 gi, .int .i64 gm, .slice gA gn gc, .int .i64 gr, .int .i64 gs] 39)))
  obtain ⟨c1, f1⟩ := blk_rule HT1.out
  have hl1 := HT1.out.lt
  rw [← HO.out]
  obtain ⟨is, hise⟩ : ∃ is, is = o.isSome := ⟨_, rfl⟩
  rw [← hise]
  have HIS : Hid (o.isSome = is) := hise.symm
  clear hise
  go_wp2_with fail
  obtain ⟨w2, hw2⟩ : ∃ w2, w2 = w1.alloc (.cells #[.int .u32 gi, .int .i64 gm, .slice gA gn gc, .int .i64 gr, .int .i64 gs] 39) := ⟨_, rfl⟩
  rw [← hw2]
  have HB2 : Hid (Below w.heap.size w w2) := by rw [hw2, ← HBE.out]; exact HB1a.out
  have HT2 : Hid (Blk w2 B #[.int .u32 t.id, .int .i64 t.mode, .slice PA t.pl.length pc, .int .i64 t.rating, .int .i64 t.since] 39) := by rw [hw2]; exact HT1a.out
  clear hw2 c1 f1 hl1 HB1 HB1a HT1 HT1a HT0 HB0 HW0
  obtain ⟨c2, f2⟩ := blk_rule HT2.out
  have HQ2 := Lib.hid (HQ.out.below HB2.out)
  have HS2 := Lib.hid (HS.out.below HB2.out)
  cases hr : rightB t.id with
  | false =>
    have hcode := Lib.hid (show putCode ts sizes t = 14 by simp [putCode, hr])
    go_wp2_with (go_at_call 49; refine (right_any _ _).mono ?_; rintro e w' ⟨rfl, rfl⟩; rw [hr])
    go_ret
    exact put_err hcode.out (by decide) HB2.out
  | true =>
    have hasks : ∀ W x, Below w2.heap.size w2 W → x ∈ t.pl → Calls Try.prog 51 (#[.int .u32 x] ++ #[]) W fun e w' => e = .returned (.bool (!rightB x)) ∧ Below w2.heap.size w2 w' := fun W x hW _ => (notRight_any x W).mono (fun e w' ⟨he, hw⟩ => ⟨he, hw ▸ hW⟩)
    have HASK := Lib.hid hasks
    clear hasks
    have ea := enters_of Try.func51 (by kernel_rfl) rfl
    obtain ⟨anyNot, hany⟩ : ∃ b, b = t.pl.any (fun x => !rightB x) := ⟨_, rfl⟩
    have HANY := Lib.hid hany
    clear hany
    cases han : anyNot with
    | true =>
      have hcode := Lib.hid (show putCode ts sizes t = 14 by simp only [putCode, ← HANY.out, han]; simp)
      go_wp2_with (first
        | (go_at_call 49; refine (right_any _ _).mono ?_; rintro e w' ⟨rfl, rfl⟩; rw [hr])
        | (go_at_call 50; refine (containsFunc32 (fun x => !rightB x) 51 #[] ea _ t.pl _ HS2.out HASK.out).mono ?_; rintro e w3 ⟨rfl, hb3⟩; rw [← HANY.out, han]))
      go_ret
      exact put_err hcode.out (by decide) (HB2.out.trans (hb3.mono HB2.out.size))
    | false =>
      go_wp2_with (first
        | (go_at_call 49; refine (right_any _ _).mono ?_; rintro e w' ⟨rfl, rfl⟩; rw [hr])
        | (go_at_call 50; refine (containsFunc32 (fun x => !rightB x) 51 #[] ea _ t.pl _ HS2.out HASK.out).mono ?_; rintro e w3 ⟨rfl, hb3⟩; rw [← HANY.out, han]))
      have HB3 := Lib.hid (HB2.out.trans (hb3.mono HB2.out.size))
      have HT3 := Lib.hid (HT2.out.below hb3)
      clear hb3 HT2 c2 f2 HS2 HQ2 HASK
      obtain ⟨c3, f3⟩ := blk_rule HT3.out
      have hg3 := (HB3.out.cell (p := ⟨g, 1, none⟩) hglt).trans HGQ.out
      have mixed : Try.prog.follows .mixedOrders = true := by kernel_rfl
      have hr14 : Hid ((!rightB t.id || t.pl.any (fun x => !rightB x)) = false) := by show _ = _; rw [← HANY.out, han, hr]; rfl
      obtain ⟨L, hL⟩ : ∃ L, L = sizes.length := ⟨_, rfl⟩
      rw [← hL] at hg3
      have HLL := Lib.hid hL
      clear hL
      by_cases hm0 : t.mode < 0
      · have hcode := Lib.hid (show putCode ts sizes t = 20 by unfold putCode; rw [hr14.out]; simp [hm0])
        have hd : decide (t.mode < 0) = true := by simpa using hm0
        go_quiet (fail)
        go_wp2
        go_ret
        exact put_err hcode.out (by decide) (below_drewN HB3.out _)
      · by_cases hmL : (L : Int) ≤ t.mode
        · have hcode := Lib.hid (show putCode ts sizes t = 20 by unfold putCode; rw [hr14.out, ← HLL.out]; simp [hmL])
          have hd : decide (t.mode < 0) = false := by simpa using hm0
          have hd2 : decide ((L : Int) ≤ t.mode) = true := by simpa using hmL
          go_quiet (fail)
          go_wp2
          go_ret
          exact put_err hcode.out (by decide) (below_drewN HB3.out _)
        · have hd : decide (t.mode < 0) = false := by simpa using hm0
          have hd2 : decide ((L : Int) ≤ t.mode) = false := by simpa using hmL
          go_quiet (fail)
          have hkd := kept_drewN w3 nq
          obtain ⟨w4, hw4⟩ : ∃ w4, w4 = w3.drewN nq := ⟨_, rfl⟩
          rw [← hw4] at hkd ⊢
          have HB4 := Lib.hid (HB3.out.trans (hkd.mono (HB3.out.size)))
          have HT4 := Lib.hid (HT3.out.below hkd)
          have hg4 := (HB4.out.cell (p := ⟨g, 1, none⟩) hglt).trans HGQ.out
          rw [← HLL.out] at hg4
          clear hw4 hkd c3 f3 hg3 HT3 HB3
          obtain ⟨c4, f4⟩ := blk_rule HT4.out
          go_wp2_with fail
          obtain ⟨gS, rfl, hgS, hcS⟩ := HSZ.out t.mode.toNat (by rw [← HLL.out]; omega)
          have hs4 := (HB4.out.cell (p := ⟨gS, t.mode.toNat, none⟩) hgS).trans hcS
          clear hcS
          obtain ⟨K, hK⟩ : ∃ K, K = sizes.getD t.mode.toNat 0 := ⟨_, rfl⟩
          rw [← hK] at hs4
          have HK := Lib.hid hK
          clear hK
          have hm0' : 0 ≤ t.mode := by omega
          have hmL' : t.mode < (L : Int) := by omega
          have hr20 : Hid (¬ (t.mode < 0 ∨ t.mode ≥ (sizes.length : Int))) := by show ¬ _; rw [← HLL.out]; omega
          obtain ⟨n, hn⟩ : ∃ n, n = t.pl.length := ⟨_, rfl⟩
          rw [← hn] at c4 ⊢
          have HN := Lib.hid hn
          clear hn
          by_cases hn0 : n = 0
          · have hcode := Lib.hid (show putCode ts sizes t = 21 by unfold putCode; rw [hr14.out, if_neg (by decide), if_neg hr20.out, if_pos (.inl (by rw [← HN.out]; exact hn0))])
            have hd3 : ((n : Int) == 0) = true := by simpa using hn0
            go_quiet (fail)
            go_wp2
            go_ret
            exact put_err hcode.out (by decide) (below_drewN HB4.out _)
          · have hd3 : ((n : Int) == 0) = false := by simpa using hn0
            have hnp : ¬ ((n : Int) = 0) := by omega
            by_cases hnK : K < (n : Int)
            · have hcode := Lib.hid (show putCode ts sizes t = 21 by unfold putCode; rw [hr14.out, if_neg (by decide), if_neg hr20.out, if_pos (.inr (by rw [← HN.out, ← HK.out]; exact hnK))])
              have hd4 : decide (K < (n : Int)) = true := by simpa using hnK
              go_quiet (fail)
              go_wp2
              go_ret
              exact put_err hcode.out (by decide) (below_drewN HB4.out _)
            · have hd4 : decide (K < (n : Int)) = false := by simpa using hnK
              have hr21 : Hid (¬ (t.pl.length = 0 ∨ (t.pl.length : Int) > sizes.getD t.mode.toNat 0)) := by show ¬ _; rw [← HN.out, ← HK.out]; omega
              go_quiet (fail)
              have hkd := kept_drewN w4 nq
              obtain ⟨w5, hw5⟩ : ∃ w5, w5 = w4.drewN nq := ⟨_, rfl⟩
              rw [← hw5] at hkd ⊢
              have HB5 := Lib.hid (HB4.out.trans (hkd.mono (HB4.out.size)))
              have HT5 := Lib.hid (HT4.out.below hkd)
              clear hw5 hkd c4 f4 hg4 HT4 HB4 hs4
              obtain ⟨c5, f5⟩ := blk_rule HT5.out
              rw [← HN.out] at c5
              by_cases hrt0 : t.rating < 0
              · have hcode := Lib.hid (show putCode ts sizes t = 2 by unfold putCode; rw [hr14.out, if_neg (by decide), if_neg hr20.out, if_neg hr21.out, if_pos (.inl hrt0)])
                go_wp2
                go_ret
                exact put_err hcode.out (by decide) HB5.out
              · by_cases hrt1 : 10000 < t.rating
                · have hcode := Lib.hid (show putCode ts sizes t = 2 by unfold putCode; rw [hr14.out, if_neg (by decide), if_neg hr20.out, if_neg hr21.out, if_pos (.inr hrt1)])
                  go_wp2
                  go_ret
                  exact put_err hcode.out (by decide) HB5.out
                · have hr2 : Hid (¬ (t.rating < 0 ∨ t.rating > 10000)) := by show ¬ _; omega
                  have HS5 : Hid (Shows w5 .u32 (.slice PA n pc) t.pl) := by rw [HN.out]; exact HS.out.below HB5.out
                  have HQ5 := Lib.hid (HQ.out.below HB5.out)
                  cases his : is with
                  | true =>
                    have hcode := Lib.hid (show putCode ts sizes t = 11 by unfold putCode; rw [hr14.out, if_neg (by decide), if_neg hr20.out, if_neg hr21.out, if_neg hr2.out, ← HO.out, HIS.out, his, Bool.true_or, if_pos rfl])
                    go_wp2
                    go_ret
                    exact put_err hcode.out (by decide) HB5.out
                  | false =>
                    go_wp2_with fail
                    refine (doubled_any base g va _ ts sizes _ t.pl w5 HQ5.out HS5.out).mono ?_
                    rintro e w6 ⟨rfl, hb6⟩
                    have HB6 := Lib.hid (HB5.out.trans (hb6.mono HB5.out.size))
                    have HT6 := Lib.hid (HT5.out.below hb6)
                    obtain ⟨db, hdb⟩ : ∃ db, db = doubledB ts t.pl := ⟨_, rfl⟩
                    rw [← hdb]
                    have HDB := Lib.hid hdb
                    clear hb6 hdb c5 f5 HT5 HB5 HQ5 HS5
                    cases hdt : db with
                    | true =>
                      have hcode := Lib.hid (show putCode ts sizes t = 11 by unfold putCode; rw [hr14.out, if_neg (by decide), if_neg hr20.out, if_neg hr21.out, if_neg hr2.out, ← HDB.out, hdt, Bool.or_true, if_pos rfl])
                      go_wp2
                      go_ret
                      exact put_err hcode.out (by decide) HB6.out
                    | false =>
                      have hr11 : Hid (((ts.find? (fun y => y.id == t.id)).isSome || doubledB ts t.pl) = false) := by show _ = _; rw [← HO.out, HIS.out, his, ← HDB.out, hdt]; rfl
                      obtain ⟨c6, f6⟩ := blk_rule HT6.out
                      rw [← HN.out] at c6
                      go_wp2_with fail
                      refine (mode_some base g va _ ts sizes t.mode w6 (HQ.out.below HB6.out) hmany).mono ?_
                      rintro e w7 ⟨v7, ts7, rfl, hor, hkeys, hb7⟩
                      obtain ⟨A7, c7', rfl⟩ : ∃ A c, v7 = .slice A ts7.length c := by
                        rcases own_trow hor.row with ⟨rfl, rfl⟩ | ⟨b, c, rfl, _⟩
                        · exact ⟨none, 0, rfl⟩
                        · exact ⟨_, c, rfl⟩
                      have HLen : Hid (ts7.length = (ts.filter (fun y => y.mode == t.mode)).length) := by have := congrArg List.length hkeys; show _ = _; simpa using this
                      have HB7 := Lib.hid (HB6.out.trans (hb7.mono HB6.out.size))
                      have HT7 := Lib.hid (HT6.out.below hb7)
                      clear hor hkeys hb7 c6 f6 HT6 HB6
                      obtain ⟨m7, hm7⟩ : ∃ m, m = ts7.length := ⟨_, rfl⟩
                      rw [← hm7]
                      have HM7 := Lib.hid hm7
                      clear hm7
                      by_cases h16 : 16 ≤ m7
                      · have hcode := Lib.hid (show putCode ts sizes t = 10 by unfold putCode; rw [hr14.out, if_neg (by decide), if_neg hr20.out, if_neg hr21.out, if_neg hr2.out, hr11.out, if_neg (by decide), if_pos (by rw [← HLen.out, ← HM7.out]; exact h16)])
                        have h16' : (16 : Int) ≤ (m7 : Int) := by omega
                        go_wp2
                        go_ret
                        exact put_err hcode.out (by decide) HB7.out
                      · have hcode := Lib.hid (show putCode ts sizes t = 0 by unfold putCode; rw [hr14.out, if_neg (by decide), if_neg hr20.out, if_neg hr21.out, if_neg hr2.out, hr11.out, if_neg (by decide), if_neg (by rw [← HLen.out, ← HM7.out]; omega)])
                        have h16' : ¬ ((16 : Int) ≤ (m7 : Int)) := by omega
                        go_wp2_with fail
                        have HQ7 := Lib.hid (HQ.out.below HB7.out)
                        have hq7 := HQ7.out.blk.cell 0
                        simp only [List.getElem?_toArray, List.getElem?_cons_zero] at hq7
                        have hlg7 := HQ7.out.lt
                        have hlB7 := HT7.out.lt
                        have d0 := HT7.out.cell 0
                        have d1 := HT7.out.cell 1
                        have d2 := HT7.out.cell 2
                        have d3 := HT7.out.cell 3
                        have d4 := HT7.out.cell 4
                        simp only [List.getElem?_toArray, List.getElem?_cons_zero, List.getElem?_cons_succ] at d0 d1 d2 d3 d4
                        rw [← HN.out] at d2
                        have HPL : Hid (∀ y ∈ ts, ∃ A m c', y.pv = .slice A m c') := fun y hy => by obtain ⟨A, c, h, _⟩ := (HQ.out.pls y hy).shows.form; exact ⟨A, _, c, h⟩
                        have HSE : Hid (Calls Try.prog 53 #[va, .agg #[.int .u32 t.id, .int .i64 t.mode, .slice PA n pc, .int .i64 t.rating, .int .i64 t.since], .func (.func 54) #[] #[]] w7.drew (fun e w' => SearchRes w7.drew w' ts.length (fun i => ordT (ts.getD i Tk.zero) t) e)) :=
                          search_any base _ va ts ⟨t.id, t.mode, .slice PA n pc, t.pl, t.rating, t.since⟩ w7.drew hmany HQ7.out.all HPL.out ⟨_, _, _, rfl⟩ (sorted_mono HSO.out ⟨t.id, t.mode, .slice PA n pc, t.pl, t.rating, t.since⟩)
                        go_region_held3 (fun w' => w'.cell? ⟨g, 0, none⟩ = some va ∧ w'.cell? ⟨B, 0, none⟩ = some (.int .u32 t.id) ∧ w'.cell? ⟨B, 1, none⟩ = some (.int .i64 t.mode) ∧ w'.cell? ⟨B, 2, none⟩ = some (.slice PA n pc) ∧ w'.cell? ⟨B, 3, none⟩ = some (.int .i64 t.rating) ∧ w'.cell? ⟨B, 4, none⟩ = some (.int .i64 t.since))
                          (first | go_keep | exact ⟨(hb8.cell (p := ⟨g, 0, none⟩) hlg7).trans hq7, (hb8.cell (p := ⟨B, 0, none⟩) hlB7).trans d0, (hb8.cell (p := ⟨B, 1, none⟩) hlB7).trans d1, (hb8.cell (p := ⟨B, 2, none⟩) hlB7).trans d2, (hb8.cell (p := ⟨B, 3, none⟩) hlB7).trans d3, (hb8.cell (p := ⟨B, 4, none⟩) hlB7).trans d4⟩)
                          (first | (go_at_call 53; refine HSE.out.mono ?_; rintro e w8 ⟨k, found, rfl, hkn, hk1, hk2, hk3, hb8⟩))
                        have HB8 := Lib.hid (HB7.out.drew.trans (hb8.mono HB7.out.size))
                        have HT8 := Lib.hid ((show Blk w7.drew _ _ _ from HT7.out).below hb8)
                        have HK := Lib.hid (show k ≤ ts.length ∧ ∀ t' : Tk, t'.key = t.key → insT t' ts = ts.take k ++ t' :: ts.drop k from ⟨hkn, fun t' h => insT_key hkn hk1 hk2 t' h⟩)
                        clear hq7 hlg7 hlB7 d0 d1 d2 d3 d4 HSE hkn hk1 hk2 hk3 hb8 HB7 HT7 HQ7
                        have HQ8 := Lib.hid (HQ.out.below HB8.out)
                        have hq8 := HQ8.out.blk.cell 0
                        simp only [List.getElem?_toArray, List.getElem?_cons_zero] at hq8
                        have hlg8 := HQ8.out.lt
                        have hlB8 := HT8.out.lt
                        have d0 := HT8.out.cell 0
                        have d1 := HT8.out.cell 1
                        have d2 := HT8.out.cell 2
                        have d3 := HT8.out.cell 3
                        have d4 := HT8.out.cell 4
                        simp only [List.getElem?_toArray, List.getElem?_cons_zero, List.getElem?_cons_succ] at d0 d1 d2 d3 d4
                        rw [← HN.out] at d2
                        have HQD : Hid (QRep w8.drew base g va _ ts sizes) := HQ8.out.below ((Below.refl _ _).drew)
                        have HBD : Hid (base ≤ w8.drew.heap.size) := Nat.le_trans HBA.out HB8.out.size
                        have HOW : Hid (Calls Try.prog 56 #[.agg #[.int .u32 t.id, .int .i64 t.mode, .slice PA n pc, .int .i64 t.rating, .int .i64 t.since]] w8.drew fun e w' => Copied w8.drew w' t.pl e t.id t.mode t.rating t.since) :=
                          own_any t.id t.mode t.rating t.since (.slice PA n pc) t.pl w8.drew (by rw [HN.out]; exact HS.out.below HB8.out.drew) HF.out
                        go_wp2_with fail
                        go_region_law (first | (go_simp; go_at_call 56; refine HOW.out.mono ?_; rintro e w9 ⟨pv', rfl, hown, hb9⟩; obtain ⟨A9, c9, rfl, _⟩ := hown.shows.form; have q9 := (hb9.cell (p := ⟨g, 0, none⟩) hlg8).trans hq8; have l9 : g < w9.heap.size := Nat.lt_of_lt_of_le hlg8 hb9.size) | (go_simp; go_at_call 55; refine (put_tail w8.drew w9 base g va _ ts sizes t A9 c9 k HQD.out hb9 hown HF.out HK.out.1 HK.out.2 hmany HBD.out).mono ?_; rintro e w10 ⟨gg, cap, rfl, q10, f10, hdone⟩))
                        all_goals
                          obtain ⟨va', t', hkey, hqr, hkp, hfr, hfr2⟩ := hdone
                          have HD := Lib.hid (show ∃ va' t', t'.key = t.key ∧ QRep _ base g va' _ (insT t' ts) sizes ∧ Kept w _ (fun k => k = g ∨ va.ownBlock = some k) ∧ (∀ k, va'.ownBlock = some k → va.ownBlock = some k ∨ w.heap.size ≤ k) ∧ (∀ k, t'.pv.ownBlock = some k → w.heap.size ≤ k) from
                            ⟨va', t', hkey, hqr, (kept_of_below HB8.out.drew (fun k => k = g ∨ va.ownBlock = some k)).trans hkp (fun j _ h => h), fun j hj => (hfr j hj).imp id (fun h => Nat.le_trans HB8.out.size h), fun j hj => Nat.le_trans HB8.out.size (hfr2 j hj)⟩)
                          clear hkey hqr hkp hfr hfr2 q10 f10 hown hb9
                          go_wp2
                          go_ret
                          exact ⟨by rw [hcode.out]; rfl, fun h => absurd hcode.out h, fun _ => HD.out⟩
end Go.Proofs.Ytlkpmlcmgggifaa
