/- QueueOne's walk. -/
import Derived.Test.YtlkpmlcmgggifaaQx
import Derived.Deep.DeepCutAuto
import Derived.Deep.Cut
import Derived.Deep.CutRange
set_option linter.unusedVariables false
set_option linter.unusedSimpArgs false
namespace Go.Proofs.Ytlkpmlcmgggifaa
open Go.RowKit
theorem QL.touch {B : Nat} {w : World} {g : Nat} {ts : List Tk} {sizes : List Int} (h : QL B nop w g ts sizes) {b : Nat} {cs : Array Value} (hb : Blk w b cs 43) (j : Nat) (u : Value) : QL B nop (w.setCell ⟨b, j, none⟩ u) g ts sizes := by
  obtain ⟨va, vs, h, hp⟩ := h
  have hk : Kept w (w.setCell ⟨b, j, none⟩ u) (fun i => i = b) := Kept.setCell (S := fun i => i = b) (Kept.refl _ _) (fun _ => rfl) u
  refine ⟨va, vs, h.kept hk ?_, hp⟩
  intro k cur t _ hbk ht e
  refine hbk.ne hb ?_ e
  rcases ht with rfl | rfl | rfl | rfl <;> decide
/-- What stands in QueueOne's inner loops. -/
structure OneSt (w W : World) (g b5 : Nat) (ts : List Tk) (v5 : Value) (xs : List Int) (v9 : Value) (ts9 : List Tk) : Prop where
  q : QL w.heap.size nop W g ts [1, 4]
  k : Blk W b5 #[v5, .int .i64 200] 43
  o : OwnR W w.heap.size v5 xs
  b : Below w.heap.size w W
  r : ORow W w.heap.size v9 ts9
theorem OneSt.below {w W W' : World} {g b5 : Nat} {ts : List Tk} {v5 : Value} {xs : List Int} {v9 : Value} {ts9 : List Tk} (h : OneSt w W g b5 ts v5 xs v9 ts9) (hb : Below W.heap.size W W') : OneSt w W' g b5 ts v5 xs v9 ts9 :=
  ⟨h.q.below hb, h.k.below hb, own_below h.o hb, h.b.trans (hb.mono h.b.size), h.r.below hb⟩
theorem OneSt.store {w W W1 : World} {g b5 : Nat} {ts : List Tk} {v5 v' : Value} {xs xs' : List Int} {v9 : Value} {ts9 : List Tk} (h : OneSt w W g b5 ts v5 xs v9 ts9) (h5 : w.heap.size ≤ b5) (hb : Below W.heap.size W W1) (ho : OwnR W1 W.heap.size v' xs') :
    OneSt w ((W1.setCell ⟨b5, 0, none⟩ v').setCell ⟨b5, 1, none⟩ (.int .i64 200)) g b5 ts v' xs' v9 ts9 := by
  have h1 := h.below hb
  have e1 : Blk (W1.setCell ⟨b5, 0, none⟩ v') b5 #[v', .int .i64 200] 43 := blk_setCell (cur := [v5, .int .i64 200]) h1.k 0 v'
  have e2 : Blk ((W1.setCell ⟨b5, 0, none⟩ v').setCell ⟨b5, 1, none⟩ (.int .i64 200)) b5 #[v', .int .i64 200] 43 := blk_setCell (cur := [v', .int .i64 200]) e1 1 _
  have hk : Kept W1 ((W1.setCell ⟨b5, 0, none⟩ v').setCell ⟨b5, 1, none⟩ (.int .i64 200)) (fun i => i = b5) := (Kept.setCell (S := fun i => i = b5) (Kept.refl _ _) (fun _ => rfl) _).setCell (fun _ => rfl) _
  refine ⟨(h1.q.touch h1.k 0 v').touch e1 1 _, e2, own_kept (own_mono ho h.b.size) hk (fun j hj => own_ne ho h1.k (by decide) j hj), (h1.b.setCell h5 _).setCell h5 _, ?_⟩
  exact ⟨own_kept h1.r.row hk (fun j hj => own_ne h1.r.row h1.k (by decide) j hj), fun t ht => own_kept (h1.r.pls t ht) hk (fun j hj => own_ne (h1.r.pls t ht) h1.k (by decide) j hj)⟩
theorem OneSt.tick {w W : World} {g b5 bA oA n9 c9 : Nat} {ts : List Tk} {v5 : Value} {xs : List Int} {ts9 us : List Tk} (h : OneSt w W g b5 ts v5 xs (.slice (some ⟨bA, oA, none⟩) n9 c9) ts9) (hk : ts9.map Tk.key = us.map Tk.key) {i : Nat} (hi : i < n9) :
    ∃ PA pc, ShowsA W .u32 (.slice PA (us.getD i Tk.zero).pl.length pc) (us.getD i Tk.zero).pl ∧ W.cell? ⟨bA, oA + i * 5, none⟩ = some (.int .u32 (us.getD i Tk.zero).id) ∧ W.cell? ⟨bA, oA + i * 5 + 1, none⟩ = some (.int .i64 (us.getD i Tk.zero).mode) ∧
      W.cell? ⟨bA, oA + i * 5 + 2, none⟩ = some (.slice PA (us.getD i Tk.zero).pl.length pc) ∧ W.cell? ⟨bA, oA + i * 5 + 4, none⟩ = some (.int .i64 (us.getD i Tk.zero).since) := by
  obtain ⟨b, o, e, id, mode, PA, pn, pc, pl, rating, since, hpn, hs, hg, c0, c1, c2, c3, c4⟩ := h.r.arg.at (Below.refl _ _) hi
  simp only [Option.some.injEq, Addr.mk.injEq, and_true] at e
  obtain ⟨rfl, rfl⟩ := e
  have hkey := keys_at hk i
  rw [hg] at hkey
  revert hkey
  generalize us.getD i Tk.zero = y
  obtain ⟨yi, ym, yv, yp, yr, ys⟩ := y
  intro hkey
  simp only [Tk.key, Prod.mk.injEq] at hkey
  obtain ⟨rfl, rfl, rfl, rfl, rfl⟩ := hkey
  subst hpn
  exact ⟨PA, pc, hs, c0, c1, c2, c4⟩
theorem OneSt.row {w W : World} {g b5 n9 c9 : Nat} {A9 : Option Addr} {ts : List Tk} {v5 : Value} {xs : List Int} {ts9 : List Tk} (h : OneSt w W g b5 ts v5 xs (.slice A9 n9 c9) ts9) (hi : 0 < n9) : ∃ b o, A9 = some ⟨b, o, none⟩ := by
  obtain ⟨b, o, e, _⟩ := h.r.arg.at (Below.refl _ _) hi
  exact ⟨b, o, e⟩
theorem OwnR.form2 {w : World} {base : Nat} {v : Value} {xs : List Int} (h : OwnR w base v xs) : ∃ A n c, v = .slice A n c ∧ n = xs.length := by
  obtain ⟨A, c, e⟩ := h.form
  exact ⟨A, _, c, e, rfl⟩
theorem pl_le {ts : List Tk} (h : Inv ts [1, 4]) {t : Tk} (ht : t ∈ ts) : t.pl.length ≤ 4 := by
  have o := h.one t ht
  have h1 := o.n1; have h2 := o.m0; have h3 := o.m1
  simp at h3
  rcases (show t.mode = 0 ∨ t.mode = 1 by omega) with e | e <;> rw [e] at h1 <;> simp at h1 <;> omega
theorem cnt_le {ts : List Tk} {sizes : List Int} (h : Inv ts sizes) : ∀ m, cnt ts m ≤ 16 * m
  | 0 => Nat.le_refl _
  | m + 1 => by
    have h1 := cnt_le h m
    have h2 : (lm ts m).length ≤ 16 := h.many m
    simp only [cnt]; omega
set_option maxHeartbeats 16000000 in
set_option maxRecDepth 100000 in
theorem one_any (v : Value) (us : List Tk) (w : World) (ha : ArgT w v us) : Calls Try.prog 3 #[v] w fun e w' => TrueRes w w' e := by
  obtain ⟨A, c, rfl⟩ := ha.form
  obtain ⟨n, hn⟩ : ∃ n, n = us.length := ⟨_, rfl⟩
  rw [← hn] at ha ⊢
  have HA := Lib.hid ha
  clear ha hn
  by_cases h60 : 60 < n
  · have h60' : (60 : Int) < (n : Int) := by omega
    go_enter Try.func3, Try.ntmps3
    go_wp2
    go_ret
    exact ⟨rfl, Below.refl _ _⟩
  · have h60' : ¬ ((60 : Int) < (n : Int)) := by omega
    go_enter Try.func3, Try.ntmps3
    go_wp2_with fail
    refine (usual_any _ w.heap.size 2 [⟨1, 0, 0, 0, 0⟩, ⟨4, 0, 0, 0, 0⟩] (heap_alloc_new w _) (by decide)).mono ?_
    rintro e w1 ⟨v', rfl, hsm, hb1⟩
    have HB1 : Hid (Below w.heap.size w w1) := ((Below.refl _ _).alloc (Nat.le_refl _) _).trans (hb1.mono (by simp))
    have HSM := Lib.hid hsm
    clear hb1 hsm
    go_wp2_with fail
    refine (usual_new w1 v' _ HSM.out (by decide)).mono ?_
    rintro e w2 ⟨g, rfl, hq, hb2⟩
    have HQ2 : Hid (QL w.heap.size nop w2 g [] [1, 4]) := hq.mono HB1.out.size
    have HB2 : Hid (Below w.heap.size w w2) := HB1.out.trans (hb2.mono HB1.out.size)
    clear hq hb2 HB1 HSM
    go_wp2_with fail
    go_loopw [4] (fun i W => ∃ (k : Nat) (ts : List Tk), k ≤ n ∧ i = .int .i64 k ∧ ts.length ≤ k ∧ Hid (QL w.heap.size nop W g ts [1, 4]) ∧ Hid (Inv ts [1, 4]) ∧ Hid (Below w.heap.size w W)) (fun i _ => n - (intOf i).toNat)
    case atStart => exact ⟨0, [], Nat.zero_le _, rfl, Nat.le_refl _, HQ2, Inv.nil _, HB2⟩
    case round =>
      obtain ⟨k, ts, hk, rfl, hlen, HQ, HI, HB⟩ := hrel
      clear HQ2 HB2
      by_cases hlt : k < n
      · obtain ⟨b, off, rfl, id, mode, PA, pn, pc, pl, rating, since, hpn, hs, _, k0, k1, k2, k3, k4⟩ := HA.out.at HB.out hlt
        have HS := Lib.hid hs
        have HPN := Lib.hid hpn
        clear hs hpn
        by_cases h8 : 8 < pn
        · have h8' : (8 : Int) < (pn : Int) := by omega
          go_wp2_with fail
          go_ret
          exact ⟨rfl, HB.out⟩
        · have h8' : ¬ ((8 : Int) < (pn : Int)) := by omega
          have HF : Hid (pl.length ≤ 8) := by show _ ≤ _; rw [← HPN.out]; omega
          go_wp2_with (first
            | (go_at_call 11; refine (lawOwn id mode rating since _ pl _ HS.out HF.out).mono ?_; rintro e w3 ⟨pv3, rfl, hown, hb3⟩; obtain ⟨A3, c3, rfl, _⟩ := hown.shows.form; have HOWN := Lib.hid hown; have HB3 := Lib.hid (HB.out.trans (hb3.mono HB.out.size)); have HQ3 := Lib.hid (HQ.out.below hb3); clear hown hb3)
            | (go_at_call 10; refine (put_law w.heap.size g nop ts [1, 4] id mode rating since _ pl w3 HQ3.out (fun _ c => c.elim) HOWN.out.shows HF.out (by omega) HI.out.sorted).mono ?_; rintro e w4 ⟨rfl, hb4, _, ts4, hq4, h4, h5⟩))
          have hpi := put_inv HI.out h4 h5
          have hlen4 := hpi.2
          have HI4 := Lib.hid hpi.1
          have HQ4 := Lib.hid hq4
          have HB4 := Lib.hid (HB3.out.trans hb4)
          clear hpi h4 h5 hq4 hb4 k0 k1 k2 k3 k4 HS HPN HQ3 HB3 HOWN HF
          go_roundw
          case rel => exact ⟨k + 1, ts4, by omega, by go_num, by omega, HQ4, HI4, HB4⟩
          case measure => simp [intOf]; omega
      · have hge : ¬ ((k : Int) < (n : Int)) := by omega
        have hlen60 : ts.length ≤ 60 := by omega
        obtain ⟨b5, hb5⟩ : ∃ b5, b5 = wr.heap.size := ⟨_, rfl⟩
        have ha : Below wr.heap.size wr (wr.alloc (.cells #[.slice none 0 0, .int .i64 200] 43)) := (Below.refl _ _).alloc (Nat.le_refl _) _
        have HK5 : Hid (Blk (wr.alloc (.cells #[.slice none 0 0, .int .i64 200] 43)) b5 #[.slice none 0 0, .int .i64 200] 43) := by rw [hb5]; exact heap_alloc_new wr _
        have HQ5 := Lib.hid (HQ.out.below ha)
        have HB5 := Lib.hid (HB.out.trans (ha.mono HB.out.size))
        have HL5 : Hid (w.heap.size ≤ b5) := by rw [hb5]; exact HB.out.size
        have HND := Lib.hid (pre2_nodup HI.out)
        have HLN := Lib.hid (pre2_len HI.out)
        have HG5 := Lib.hid hb5
        clear ha hb5 HQ HB
        go_wp2_with fail
        rw [← HG5.out]
        go_loopw [6, 7, 8] (fun p q i W => ∃ (m : Nat) (v5 : Value), m ≤ 2 ∧ p = .int .i64 (pre ts m).length ∧ q = .int .i64 (cnt ts m) ∧ i = .int .i64 m ∧ Hid (QL w.heap.size nop W g ts [1, 4]) ∧ Hid (Blk W b5 #[v5, .int .i64 200] 43) ∧ Hid (OwnR W w.heap.size v5 (pre ts m)) ∧ Hid (Below w.heap.size w W)) (fun _ _ i _ => 2 - (intOf i).toNat)
        case atStart => exact ⟨0, _, Nat.zero_le _, rfl, rfl, rfl, HQ5, HK5, World.ownsRow_nil _ _ _ _, HB5⟩
        case round =>
          clear HQ5 HK5 HB5
          obtain ⟨m, v5, hm, rfl, rfl, rfl, HQ, HK, HO, HB⟩ := hrel
          by_cases hm2 : m < 2
          · have hcn := cnt_le HI.out m
            have hcn2 : cnt ts m ≤ 16 := by omega
            obtain ⟨cm, hcm⟩ : ∃ cm, cm = cnt ts m := ⟨_, rfl⟩
            rw [← hcm] at hcn2 ⊢
            have HCM := Lib.hid hcm
            clear hcn hcm
            go_wp2_with fail
            refine (mode_law w.heap.size g _ ts [1, 4] m wr HQ.out (by omega)).mono ?_
            rintro e w9 ⟨v9, ts9, rfl, hor9, hkeys9, hb9⟩
            obtain ⟨A9, c9, rfl⟩ := hor9.form
            have hk9 : ts9.map Tk.key = (lm ts m).map Tk.key := hkeys9
            have hl9 : ts9.length = (lm ts m).length := by have := congrArg List.length hk9; simpa using this
            have h16 : (lm ts m).length ≤ 16 := HI.out.many m
            have hor9' : ORow w9 w.heap.size (.slice A9 ts9.length c9) ts9 := hor9.mono HB.out.size
            obtain ⟨n9, hn9⟩ : ∃ n9, n9 = ts9.length := ⟨_, rfl⟩
            rw [← hn9] at hor9' ⊢
            have h16' : n9 ≤ 16 := by omega
            have HST : Hid (OneSt w w9 g b5 ts v5 (pre ts m) (.slice A9 n9 c9) ts9) := ⟨HQ.out.below hb9, HK.out.below hb9, own_below HO.out hb9, HB.out.trans (hb9.mono HB.out.size), hor9'⟩
            have HK9 := Lib.hid hk9
            have HN9 : Hid (n9 = (lm ts m).length) := hn9.trans hl9
            obtain ⟨P0, hP0⟩ : ∃ P0, P0 = pre ts m ++ pls (lm ts m) := ⟨_, rfl⟩
            have HPL : Hid ((pre ts m ++ pls (lm ts m)).length ≤ 128 ∧ (pre ts m ++ pls (lm ts m)).Nodup) := ⟨Nat.le_trans (pre_len (by omega)).1 HLN.out, (pre_len (by omega)).2 HND.out⟩
            clear hor9 hkeys9 hb9 hk9 hl9 h16 hor9' hn9 HQ HK HO HB hP0
            go_wp2_with fail
            go_loopw [6, 10] (fun p j W => ∃ (i : Nat) (v6 : Value), i ≤ n9 ∧ p = .int .i64 (pre ts m ++ pls ((lm ts m).take i)).length ∧ j = .int .i64 i ∧ Hid (OneSt w W g b5 ts v6 (pre ts m ++ pls ((lm ts m).take i)) (.slice A9 n9 c9) ts9)) (fun _ j _ => n9 - (intOf j).toNat)
            case atStart => exact ⟨0, v5, Nat.zero_le _, by simp [pls], rfl, by simpa [pls] using HST⟩
            case round =>
              clear HST
              obtain ⟨i, v6, hi, rfl, rfl, HST⟩ := hrel
              by_cases hi9 : i < n9
              · obtain ⟨bA, oA, rfl⟩ := HST.out.row (by omega)
                obtain ⟨y, hy⟩ : ∃ y, y = (lm ts m).getD i Tk.zero := ⟨_, rfl⟩
                obtain ⟨PA, pcA, hsA, a0, a1, a2, a4⟩ := HST.out.tick HK9.out hi9
                rw [← hy] at hsA a0 a1 a2 a4
                have hyi : y ∈ lm ts m := by rw [hy]; exact getD_mem _ _ _ (by rw [← HN9.out]; exact hi9)
                have hym : y.mode = m := by simpa using (List.mem_filter.1 hyi).2
                have HY := Lib.hid hy
                have HYT : Hid (y ∈ ts) := (List.mem_filter.1 hyi).1
                rw [hym] at a1
                have hmm : ((m : Int) != (m : Int)) = false := by simp
                clear hy hyi hym
                have HPA := Lib.hid hsA
                clear hsA
                go_wp2_with fail
                go_cut [113] (fun t W => t = .bool false ∧ ∃ nq, W = wr.drewN nq)
                case first =>
                  rcases Nat.eq_zero_or_pos i with h0 | hp
                  · have hd : decide ((0 : Int) < (i : Int)) = false := by simp; omega
                    have hd2 : decide (0 < i) = false := by simp; omega
                    clear h0
                    go_quiet (fail)
                    go_wp2_with fail
                    go_meet
                    exact ⟨rfl, nq, rfl⟩
                  · obtain ⟨i1, rfl⟩ : ∃ i1, i = i1 + 1 := ⟨i - 1, by omega⟩
                    obtain ⟨y1, hy1⟩ : ∃ y1, y1 = (lm ts m).getD i1 Tk.zero := ⟨_, rfl⟩
                    obtain ⟨_, _, _, d0, _, _, d4⟩ := HST.out.tick HK9.out (i := i1) (by omega)
                    rw [← hy1] at d0 d4
                    have hord := order_at HI.out (m := m) (i := i1 + 1) (by omega) (by rw [← HN9.out]; exact hi9)
                    rw [Nat.add_sub_cancel, ← hy1, ← HY.out, ordT_neg] at hord
                    clear hy1 hp
                    have hd : decide ((0 : Int) < ((i1 + 1 : Nat) : Int)) = true := by simp <;> omega
                    have hd2 : decide (0 < i1 + 1) = true := by simp
                    have hd3 : decide ((0 : Int) < (i1 : Int) + 1) = true := by simp <;> omega
                    have hm1 : IntKind.i64.wrap ((i1 : Int) + 1 - 1) = (i1 : Int) := by rw [IntKind.wrap_i64]; omega
                    have lA : bA < wr.heap.size := cell_lt a0
                    obtain ⟨yi, hyi⟩ : ∃ z, z = y.id := ⟨_, rfl⟩
                    obtain ⟨ysn, hys⟩ : ∃ z, z = y.since := ⟨_, rfl⟩
                    obtain ⟨zi, hzi⟩ : ∃ z, z = y1.id := ⟨_, rfl⟩
                    obtain ⟨zs, hzs⟩ : ∃ z, z = y1.since := ⟨_, rfl⟩
                    rw [← hyi, ← hys, ← hzi, ← hzs] at hord
                    rw [← hyi] at a0
                    rw [← hys] at a4
                    rw [← hzi] at d0
                    rw [← hzs] at d4
                    clear hyi hys hzi hzs
                    have hs1 : decide (ysn < zs) = false := by simp; omega
                    rcases hord with hlt2 | ⟨rfl, hid⟩
                    · have hs2 : (ysn == zs) = false := by simp; omega
                      go_quiet (fail)
                      go_wp2_with fail
                      go_meet
                      exact ⟨rfl, nq, rfl⟩
                    · have hs2 : (zs == zs) = true := by simp
                      have hs3 : decide (yi ≤ zi) = false := by simp; omega
                      go_quiet (fail)
                      go_wp2_with fail
                      go_meet
                      exact ⟨rfl, nq, rfl⟩
                case rest =>
                  obtain ⟨rfl, nq, hwq⟩ := hcut
                  have HSTQ : Hid (OneSt w wc g b5 ts v6 (pre ts m ++ pls ((lm ts m).take i)) (.slice (some ⟨bA, oA, none⟩) n9 c9) ts9) := by rw [hwq]; exact HST.out.below (kept_drewN wr nq)
                  clear hwq a0 a1 a2 a4 HST
                  obtain ⟨pn, hpn⟩ : ∃ pn, pn = y.pl.length := ⟨_, rfl⟩
                  obtain ⟨xi, hxi⟩ : ∃ xi, xi = pre ts m ++ pls ((lm ts m).take i) := ⟨_, rfl⟩
                  rw [← hxi] at HSTQ ⊢
                  have HXI := Lib.hid hxi
                  have HPN := Lib.hid hpn
                  have hpn4b : pn ≤ 4 := by rw [hpn]; exact pl_le HI.out HYT.out
                  clear hpn hxi
                  go_wp2_with fail
                  go_loopw [6, 11] (fun p q W => ∃ (k4 : Nat) (v7 : Value), k4 ≤ pn ∧ p = .int .i64 (xi ++ y.pl.take k4).length ∧ q = .int .i64 k4 ∧ Hid (OneSt w W g b5 ts v7 (xi ++ y.pl.take k4) (.slice (some ⟨bA, oA, none⟩) n9 c9) ts9)) (fun _ q _ => pn - (intOf q).toNat)
                  case atStart => exact ⟨0, v6, Nat.zero_le _, by simp, rfl, by simpa using HSTQ⟩
                  case round =>
                    clear HSTQ
                    obtain ⟨k4, v7, hk4, rfl, rfl, HS4⟩ := hrel
                    obtain ⟨PB, pcB, hsB, b0, _, b2, _⟩ := HS4.out.tick HK9.out hi9
                    rw [← HY.out] at hsB b0 b2
                    rw [← HPN.out] at hsB b2
                    by_cases hk4n : k4 < pn
                    · have hil : i < (lm ts m).length := by rw [← HN9.out]; exact hi9
                      have hpn4 : k4 < y.pl.length := by rw [← HPN.out]; exact hk4n
                      have hnew := player_new HPL.out.2 hil (k := k4) (by rw [← HY.out]; exact hpn4)
                      rw [← HY.out, ← HXI.out] at hnew
                      have hle := HPL.out.1
                      obtain ⟨x, hx⟩ : ∃ x, x = y.pl.getD k4 0 := ⟨_, rfl⟩
                      have hxm : x ∈ y.pl := by rw [hx]; exact getD_mem _ _ _ hpn4
                      rw [← hx] at hnew
                      obtain ⟨pb, po, pc4, e4, _, _, hp4⟩ := (hsB.pos (by omega)).blk (by omega)
                      have hp4' := hp4 k4 hpn4
                      rw [← hx] at hp4'
                      have HX4 : Hid (y.pl.getD k4 0 = x) := hx.symm
                      injection e4 with e4 _ _
                      subst e4
                      obtain ⟨A7, c7, rfl⟩ := OwnR.form HS4.out.o
                      have HR4 : Hid (Calls Try.prog 13 #[.agg #[.slice A7 (xi ++ y.pl.take k4).length c7, .int .i64 200], .int .u32 x, .int .i64 0] wr.drew fun e w' => PutR wr.drew w' 200 ((xi ++ y.pl.take k4) ++ [x]) e) :=
                        ref_put _ (xi ++ y.pl.take k4) x 200 w.heap.size wr.drew (own_below HS4.out.o ((Below.refl _ _).drew)) (by omega) hnew.1 ((HI.out.one y HYT.out).pls x hxm) (by omega)
                      have HTK : Hid (y.pl.take (k4 + 1) = y.pl.take k4 ++ [x]) := by
                        show _ = _
                        rw [List.take_succ_eq_append_getElem hpn4, hx]
                        simp [List.getD, hpn4]
                      have HOF : Hid (idOf (ts.find? (fun t => decide (x ∈ t.pl))) = y.id) := of_one HI.out HYT.out hxm
                      obtain ⟨n4, hn4⟩ : ∃ n4, n4 = (xi ++ y.pl.take k4).length := ⟨_, rfl⟩
                      have hn128 : n4 ≤ 128 := by omega
                      rw [← hn4] at HS4 HR4 ⊢
                      have HN4 := Lib.hid hn4
                      obtain ⟨cK, fK⟩ := blk_rule HS4.out.k
                      have lK := HS4.out.k.lt
                      clear hil hpn4 hnew hle hx hxm hp4 hn4 hsB
                      go_wp2_with fail
                      go_cut [6] (fun t W => t = .int .i64 ((n4 : Int) + 1) ∧ ∃ v8, Hid (OneSt w W g b5 ts v8 ((xi ++ y.pl.take k4) ++ [x]) (.slice (some ⟨bA, oA, none⟩) n9 c9) ts9))
                      case first =>
                        go_region_law (first | (go_simp; go_at_call 13; refine HR4.out.mono ?_; rintro e w10 ⟨v10, rfl, ho10, hb10⟩; obtain ⟨A10, n10, c10, rfl, hn10⟩ := OwnR.form2 ho10; have HN10 := Lib.hid hn10; clear hn10; have hb10' := ((Below.refl wr.heap.size wr).drew).trans hb10; obtain ⟨cK2, fK2⟩ := blk_rule (HS4.out.below hb10').k; have lK2 := (HS4.out.below hb10').k.lt))
                        all_goals
                          go_wp2_with fail
                          go_meet
                          exact ⟨rfl, _, HS4.out.store HL5.out hb10' ho10⟩
                      case rest =>
                        obtain ⟨rfl, v8, HS8⟩ := hcut
                        obtain ⟨PD, pcD, hsD, f0, _, f2, _⟩ := HS8.out.tick HK9.out hi9
                        rw [← HY.out] at hsD f0 f2
                        rw [← HPN.out] at hsD f2
                        have hpn8 : k4 < y.pl.length := by rw [← HPN.out]; exact hk4n
                        obtain ⟨pd, pod, pcd, e8, _, _, hp8⟩ := (hsD.pos (by omega)).blk (by omega)
                        have hp8' := hp8 k4 hpn8
                        rw [HX4.out] at hp8'
                        injection e8 with e8 _ _
                        subst e8
                        obtain ⟨yi, hyi⟩ : ∃ z, z = y.id := ⟨_, rfl⟩
                        rw [← hyi] at f0
                        have HYI := Lib.hid hyi
                        have HOF8 : Hid (Calls Try.prog 14 #[.pointer (some ⟨g, 0, none⟩), .int .u32 x] wc.drew fun e w' => e = .returned (.int .u32 yi) ∧ Below wc.drew.heap.size wc.drew w') := by
                          have h := of_law w.heap.size g nop ts [1, 4] x wc.drew (HS8.out.q.below ((Below.refl _ _).drew))
                          rw [HOF.out, ← hyi] at h
                          exact h
                        have hne8 : (yi != yi) = false := by simp
                        have lA8 : bA < wc.drew.heap.size := cell_lt (w := wc.drew) f0
                        have lP8 : pd < wc.drew.heap.size := cell_lt (w := wc.drew) hp8'
                        clear hyi hp8 hsD hpn8 b0 b2 hp4' cK fK lK HS4 HR4
                        go_wp2_with fail
                        go_region_held3 (fun w' => w'.cell? ⟨bA, oA + i * 5, none⟩ = some (.int .u32 yi) ∧ w'.cell? ⟨bA, oA + i * 5 + 2, none⟩ = some (.slice (some ⟨pd, pod, none⟩) pn pcD) ∧ w'.cell? ⟨pd, pod + k4, none⟩ = some (.int .u32 x))
                          (first | exact ⟨(hb12.cell (p := ⟨bA, oA + i * 5, none⟩) lA8).trans f0, (hb12.cell (p := ⟨bA, oA + i * 5 + 2, none⟩) lA8).trans f2, (hb12.cell (p := ⟨pd, pod + k4, none⟩) lP8).trans hp8'⟩ | go_keep)
                          (first | (go_at_call 14; refine HOF8.out.mono ?_; rintro e w12 ⟨rfl, hb12⟩))
                        have HS12 := Lib.hid (HS8.out.below (((Below.refl _ _).drew).trans hb12))
                        clear f0 f2 hp8' hb12 lA8 lP8 HOF8 HS8
                        go_wp2_with fail
                        go_roundw
                        case rel =>
                          have hl4 : (xi ++ y.pl.take (k4 + 1)) = (xi ++ y.pl.take k4) ++ [x] := by rw [HTK.out, List.append_assoc]
                          refine ⟨k4 + 1, v8, by omega, ?_, by go_num, ?_⟩
                          · rw [hl4, List.length_append, ← HN4.out]; simp
                          · rw [hl4]; exact HS12
                        case measure => simp [intOf]; omega
                    · have hge4 : ¬ ((k4 : Int) < (pn : Int)) := by omega
                      go_wp2_with fail
                      go_roundw
                      case rel =>
                        have htk : y.pl.take k4 = y.pl := List.take_of_length_le (by rw [← HPN.out]; omega)
                        have hpx : xi ++ y.pl = pre ts m ++ pls ((lm ts m).take (i + 1)) := by
                          have hil : i < (lm ts m).length := by rw [← HN9.out]; exact hi9
                          have ey : (lm ts m)[i] = y := by rw [HY.out]; simp [List.getD, hil]
                          rw [List.take_succ_eq_append_getElem hil, HXI.out, ey]
                          simp [pls]
                        rw [htk, hpx] at HS4
                        refine ⟨i + 1, v7, by omega, ?_, by go_num, HS4⟩
                        rw [htk, hpx]
                      case measure => simp [intOf]; omega
              · have hge9 : ¬ ((i : Int) < (n9 : Int)) := by omega
                go_wp2_with fail
                go_roundw
                case rel =>
                  have hti : (lm ts m).take i = lm ts m := List.take_of_length_le (by have := HN9.out; omega)
                  refine ⟨m + 1, v6, by omega, ?_, ?_, by go_num, HST.out.q, HST.out.k, ?_, HST.out.b⟩
                  · rw [hti]; rfl
                  · show _ = Value.int .i64 ((cnt ts m + (lm ts m).length : Nat) : Int)
                    rw [← HCM.out, ← HN9.out]; push_cast; rfl
                  · have := HST.out.o
                    rw [hti] at this
                    exact this
                case measure => simp [intOf]; omega
          · have hge2 : ¬ ((m : Int) < 2) := by omega
            have hm2' : m = 2 := by omega
            subst hm2'
            obtain ⟨A5, c5, rfl⟩ := OwnR.form HO.out
            obtain ⟨cK, fK⟩ := blk_rule HK.out
            have lK := HK.out.lt
            have HC2 : Hid (cnt ts 2 = ts.length) := cnt2 (fun t ht => ⟨(HI.out.one t ht).m0, by have := (HI.out.one t ht).m1; simpa using this⟩)
            rw [HC2.out]
            go_wp2_with (first
              | (go_at_call 15; refine (len_law w.heap.size g nop ts [1, 4] wr HQ.out).mono ?_; rintro e w20 ⟨rfl, rfl⟩)
              | (go_at_call 16; refine (awake_any _).mono ?_; rintro e w21 ⟨rfl, hb21⟩))
            go_ret
            exact ⟨rfl, HB.out.trans (hb21.mono HB.out.size)⟩
end Go.Proofs.Ytlkpmlcmgggifaa
