/- QueueRuns' walk. -/
import Derived.Test.YtlkpmlcmgggifaaMd
import Derived.Deep.DeepCutAuto
import Derived.Deep.Cut
import Derived.Deep.CutRange
import Derived.Test.YtlkpmlcmgggifaaRows
import Derived.ProofKit
import Derived.OpenShut
import Derived.ChangeOld
import Derived.Deep.Slices
set_option linter.unusedVariables false
set_option linter.unusedSimpArgs false
namespace Go.Proofs.Ytlkpmlcmgggifaa
open Go.RowKit Go.Proofs.Ytlkpmlcmgggifaa.PQueueRuns
open Go.Proofs.YtlkpmlcmgggifaaW.PrintWords
/-- v shows n acts. -/
def ArgA (w : World) (A : Option Addr) (n : Nat) : Prop := n ≤ maxLen ∧ ∀ k, k < n → ∃ b off dr id mode PA pn pc pl rating since, A = some ⟨b, off, none⟩ ∧ b < w.heap.size ∧ pn = pl.length ∧ ShowsA w .u32 (.slice PA pn pc) pl ∧ 0 ≤ id ∧ (∀ p ∈ pl, 0 ≤ p) ∧
  w.cell? ⟨b, off + k * 6, none⟩ = some (.bool dr) ∧ w.cell? ⟨b, off + k * 6 + 1, none⟩ = some (.int .u32 id) ∧ w.cell? ⟨b, off + k * 6 + 2, none⟩ = some (.int .i64 mode) ∧ w.cell? ⟨b, off + k * 6 + 3, none⟩ = some (.slice PA pn pc) ∧ w.cell? ⟨b, off + k * 6 + 4, none⟩ = some (.int .i64 rating) ∧ w.cell? ⟨b, off + k * 6 + 5, none⟩ = some (.int .i64 since)
/-- What stands at the head of a round. -/
structure RunL (w W : World) (g : Nat) (us : List S36) (sizes : List Int) (v : Value) : Prop where
  ex : ∃ P, QU w.heap.size P W g us sizes ∧ LV W w.heap.size P v us ∧ ∀ k, P k → k < W.heap.size
  b : Below w.heap.size w W
theorem RunL.below {w W W' : World} {g : Nat} {us : List S36} {sizes : List Int} {v : Value} (h : RunL w W g us sizes v) (hb : Below W.heap.size W W') : RunL w W' g us sizes v := by
  obtain ⟨⟨P, h1, h2, h3⟩, h4⟩ := h
  exact ⟨⟨P, h1.below hb, h2.below hb, fun k hk => Nat.lt_of_lt_of_le (h3 k hk) hb.size⟩, h4.trans (hb.mono h4.size)⟩
theorem getR_few {us : List S36} {m : Nat} (h : ∀ t ∈ us, t.f2.length ≤ m) (a : Int) : (getR us a).2.2.1.length ≤ m := by
  unfold getR
  cases hf : us.find? (fun t => t.f0 == a) with
  | none => simp
  | some t => exact h t (List.mem_of_find?_eq_some hf)
theorem below_al (w : World) (o : Obj) : Below w.heap.size w (w.alloc o) := (Below.refl _ _).alloc (Nat.le_refl _) _
set_option maxHeartbeats 16000000 in
set_option maxRecDepth 100000 in
theorem runs_any (w : World) (A0 A1 : Option Addr) (n0 c0 N c1 : Nat) (ms : List S123) (hm : k123.C w A0 ms.length ms) (hn0 : n0 = ms.length) (hc0 : n0 ≤ c0) (ha : ArgA w A1 N) :
    Calls Try.prog 4 #[.slice A0 n0 c0, .slice A1 N c1] w fun e w' => TrueRes w w' e := by
  have HM := Lib.hid hm
  have HN0 := Lib.hid hn0
  have HC0 := Lib.hid hc0
  have HA := Lib.hid ha
  have hNm := ha.1
  unfold maxLen at hNm
  clear hm hn0 hc0 ha
  by_cases h60 : 60 < N
  · have h60' : (60 : Int) < (N : Int) := by omega
    have hd60 : decide ((60 : Int) < (N : Int)) = true := decide_eq_true h60'
    go_enter Try.func4, Try.ntmps4
    go_wp2
    go_ret
    exact ⟨rfl, Below.refl _ _⟩
  · by_cases h6 : 6 < n0
    · have h60' : ¬ ((60 : Int) < (N : Int)) := by omega
      have h6' : (6 : Int) < (n0 : Int) := by omega
      go_enter Try.func4, Try.ntmps4
      go_wp2
      go_ret
      exact ⟨rfl, Below.refl _ _⟩
    · have h60' : ¬ ((60 : Int) < (N : Int)) := by omega
      have h6' : ¬ ((6 : Int) < (n0 : Int)) := by omega
      have hee : ∀ (a : Addr) (w : World), (binOp .eql 23 (.pointer (some a)) (.pointer none)).run Try.prog w = .ok (.bool false) w := fun a w => by simp [go_sem]
      obtain ⟨sizes, hsz⟩ : ∃ sizes, sizes = ms.map S123.f0 := ⟨_, rfl⟩
      have HSZ := Lib.hid hsz
      clear hsz
      go_enter Try.func4, Try.ntmps4
      go_wp2_with fail
      refine (l_config HM.out HN0.out HC0.out (by have := HN0.out; omega)).mono ?_
      rintro e w1 ⟨v', rfl, hsm, hb1⟩
      have HSM := Lib.hid hsm
      have HB1 := Lib.hid hb1
      clear hsm hb1
      go_wp2_with fail
      refine (new_any w1 _ _ _ _ _ _ _ _ _ _ _ _ _ rfl rfl rfl rfl rfl rfl rfl rfl rfl rfl rfl rfl rfl v' _ HSM.out (by rw [List.length_map]; have := HN0.out; omega)).mono ?_
      rintro e w2 ⟨g, vs, rfl, hq, hb2⟩
      have HQ2 : Hid (RunL w w2 g [] sizes (.slice none 0 0)) := by
        have e : (ms.map mdOf).map Md.k = sizes := by rw [HSZ.out, List.map_map]; rfl
        rw [e] at hq
        exact ⟨⟨nop, QU.new (QL.mono ⟨_, vs, hq, fun _ c => c.elim⟩ HB1.out.size), LV.nil _ _ _, fun _ c => c.elim⟩, HB1.out.trans (hb2.mono HB1.out.size)⟩
      clear hq hb2
      go_wp2_with fail
      go_loopw [6, 7] (fun s i W => ∃ (k : Nat) (A : Option Addr) (n c : Nat) (us : List S36), k ≤ N ∧ s = .slice A n c ∧ i = .int .i64 k ∧ us.length ≤ k ∧ Hid (RunL w W g us sizes (.slice A n c))) (fun _ i _ => N - (intOf i).toNat)
      case atStart => exact ⟨0, none, 0, 0, [], Nat.zero_le _, rfl, rfl, Nat.le_refl _, HQ2⟩
      case round =>
        obtain ⟨k, A, n, c, us, hk, rfl, rfl, hus, HR⟩ := hrel
        clear HQ2
        by_cases hlt : k < N
        · obtain ⟨b, off, dr, id, mode, PA, pn, pc, pl, rating, since, rfl, hbl, hpn, hs, hid, hp0, k0, k1, k2, k3, k4, k5⟩ := HA.out.2 k hlt
          replace k0 := (HR.out.b.cell (p := ⟨b, off + k * 6, none⟩) hbl).trans k0
          replace k1 := (HR.out.b.cell (p := ⟨b, off + k * 6 + 1, none⟩) hbl).trans k1
          replace k2 := (HR.out.b.cell (p := ⟨b, off + k * 6 + 2, none⟩) hbl).trans k2
          replace k3 := (HR.out.b.cell (p := ⟨b, off + k * 6 + 3, none⟩) hbl).trans k3
          replace k4 := (HR.out.b.cell (p := ⟨b, off + k * 6 + 4, none⟩) hbl).trans k4
          replace k5 := (HR.out.b.cell (p := ⟨b, off + k * 6 + 5, none⟩) hbl).trans k5
          have HPN := Lib.hid hpn
          have HS := Lib.hid hs
          have HID := Lib.hid hid
          have HP0 := Lib.hid hp0
          clear hpn hs hid hp0 hbl
          by_cases h8 : 8 < pn
          · have h8' : (8 : Int) < (pn : Int) := by omega
            go_wp2_with fail
            go_ret
            exact ⟨rfl, HR.out.b.alloc HR.out.b.size _⟩
          · have h8' : ¬ ((8 : Int) < (pn : Int)) := by omega
            have HF : Hid (pl.length ≤ 8) := by show _ ≤ _; rw [← HPN.out]; omega
            obtain ⟨wa, hwa⟩ : ∃ wa, wa = wr.alloc (.cells #[.bool dr, .int .u32 id, .int .i64 mode, .slice PA pn pc, .int .i64 rating, .int .i64 since] 56) := ⟨_, rfl⟩
            obtain ⟨bA, hbA⟩ : ∃ bA, bA = wr.heap.size := ⟨_, rfl⟩
            have HKa : Hid (Blk wa bA #[.bool dr, .int .u32 id, .int .i64 mode, .slice PA pn pc, .int .i64 rating, .int .i64 since] 56) := by rw [hwa, hbA]; exact heap_alloc_new wr _
            obtain ⟨P, HQa, HLa, HPa, HbA, HBa⟩ : ∃ P, Hid (QU w.heap.size P wa g us sizes) ∧ Hid (LV wa w.heap.size P (.slice A n c) us) ∧ Hid (∀ k, P k → k < wa.heap.size) ∧ Hid (P bA) ∧ Hid (Below w.heap.size w wa) := by
              obtain ⟨⟨P, h1, h2, h3⟩, h4⟩ := HR.out
              have hal : Below wr.heap.size wr wa := by rw [hwa]; exact below_al _ _
              exact ⟨more P wr wa, h1.more hal, (h2.below hal).mono (fun k hk => .inl hk), more_lt h3 hal.size, .inr ⟨by rw [hbA]; exact Nat.le_refl _, HKa.out.lt⟩, h4.trans (hal.mono h4.size)⟩
            go_upto_if 50 with (fail)
            rw [← hwa, ← hbA]
            clear hwa hbA k0 k1 k2 k3 k4 k5 HR
            have hn3 : us.length ≤ 60 := by omega
            go_cut [6] (fun s W' => ∃ (A' : Option Addr) (n' c' : Nat) (us' : List S36), s = .slice A' n' c' ∧ us'.length ≤ us.length + 1 ∧ Hid (Blk W' bA #[.bool dr, .int .u32 id, .int .i64 mode, .slice PA pn pc, .int .i64 rating, .int .i64 since] 56) ∧ Hid (RunL w W' g us' sizes (.slice A' n' c')))
            case first =>
              cases dr with
              | true =>
                rcases hgg : getR us id with ⟨g0, g1, pl2, g3, g4, is⟩
                obtain ⟨cK, fK⟩ := blk_rule HKa.out
                have HGG := Lib.hid hgg
                have HFE : Hid (pl2.length ≤ 8) := by have := getR_few HQa.out.few id; rw [hgg] at this; exact this
                clear hgg
                go_wp2_with fail
                refine (qu_drop HQa.out id).mono ?_
                rintro e w3 ⟨A2, c2, rfl, hl, hC, hb, hst, hq3⟩
                simp only [HGG.out] at hl hC ⊢
                obtain ⟨n2, hn2⟩ : ∃ n2, n2 = pl2.length := ⟨_, rfl⟩
                rw [← hn2] at hl ⊢
                have HN2 := Lib.hid hn2
                have HL2 := Lib.hid hl
                have HC2 := Lib.hid hC
                have HQ3 := Lib.hid hq3
                have HL3 := Lib.hid (HLa.out.stay hb hst)
                have HK3 := Lib.hid (hst.blk HKa.out HbA.out)
                have HB3 := Lib.hid (HBa.out.trans hb)
                have HP3 : Hid (∀ k, P k → k < w3.heap.size) := fun k hk => Nat.lt_of_lt_of_le (HPa.out k hk) hst.size
                clear hl hC hb hst hq3 cK fK hn2
                obtain ⟨cK, fK⟩ := blk_rule HK3.out
                obtain ⟨b9, hb9⟩ : ∃ b9, b9 = w3.heap.size := ⟨_, rfl⟩
                have hal := below_al w3 (.cells #[.int .u32 g0, .int .i64 g1, .slice A2 n2 c2, .int .i64 g3, .int .i64 g4] 39)
                have HT9 : Hid (Blk (w3.alloc (.cells #[.int .u32 g0, .int .i64 g1, .slice A2 n2 c2, .int .i64 g3, .int .i64 g4] 39)) b9 #[.int .u32 g0, .int .i64 g1, .slice A2 n2 c2, .int .i64 g3, .int .i64 g4] 39) := by rw [hb9]; exact heap_alloc_new w3 _
                have HAL := Lib.hid hal
                have lK := HK3.out.lt
                clear hal
                go_wp2_with fail
                refine (l_get (HL3.out.below HAL.out) (by omega) id).mono ?_
                rintro e w4 ⟨A3, c3, rfl, hl3, hC3, hb4⟩
                simp only [HGG.out] at hl3 hC3 ⊢
                rw [← HN2.out] at hl3 ⊢
                have hb4' := HAL.out.trans (hb4.mono HAL.out.size)
                have HT4 := Lib.hid (HT9.out.below hb4)
                have HK4 := Lib.hid (HK3.out.below hb4')
                have HQ4 := Lib.hid (HQ3.out.below hb4')
                have HL4 := Lib.hid (HL3.out.below hb4')
                have HC4 := Lib.hid (cint_below HC2.out hb4')
                have HB4 := Lib.hid (HB3.out.trans (hb4'.mono HB3.out.size))
                have HP4 : Hid (∀ k, P k → k < w4.heap.size) := fun k hk => Nat.lt_of_lt_of_le (HP3.out k hk) hb4'.size
                have HL5 := Lib.hid hl3
                have HC5 := Lib.hid hC3
                rw [← hb9]
                clear hl3 hC3 hb4 hb4' HAL HT9 hb9 cK fK lK HK3 HQ3 HL3 HC2 HB3 HP3
                obtain ⟨cK, fK⟩ := blk_rule HK4.out
                obtain ⟨cT, fT⟩ := blk_rule HT4.out
                have lK := HK4.out.lt
                have lT := HT4.out.lt
                have hne : (is != is) = false := by simp
                have hal := below_al w4 (.cells #[.int .u32 g0, .int .i64 g1, .slice A3 n2 c3, .int .i64 g3, .int .i64 g4] 36)
                have HAL := Lib.hid hal
                clear hal
                go_wp2_with fail
                refine (l_same g0 g1 g3 g4 (by have := HFE.out; omega) HN2.out HN2.out HL2.out HL5.out (cint_below HC4.out HAL.out) (cint_below HC5.out HAL.out)).mono ?_
                rintro e w5 ⟨rfl, hb5⟩
                have hb5' := HAL.out.trans (hb5.mono HAL.out.size)
                have HK5 := Lib.hid (HK4.out.below hb5')
                have HQ5 := Lib.hid (HQ4.out.below hb5')
                have HL6 := Lib.hid (HL4.out.below hb5')
                have HB5 := Lib.hid (HB4.out.trans (hb5'.mono HB4.out.size))
                have HP5 : Hid (∀ k, P k → k < w5.heap.size) := fun k hk => Nat.lt_of_lt_of_le (HP4.out k hk) hb5'.size
                clear hb5 hb5' HAL HK4 HQ4 HL4 HB4 HP4 HC4 HC5 HT4 cK fK cT fT lK lT hne HL2 HL5 HN2
                obtain ⟨cK, fK⟩ := blk_rule HK5.out
                have lK := HK5.out.lt
                go_wp2_with fail
                refine (l_without HL6.out (by omega) id).mono ?_
                rintro e w6 ⟨v6, rfl, hl6, hb6⟩
                obtain ⟨A6, c6, rfl⟩ := hl6.form
                have hfl : (us.filter (fun t => t.f0 != id)).length ≤ us.length := List.length_filter_le _ _
                obtain ⟨us6, hus6⟩ : ∃ us6, us6 = us.filter (fun t => t.f0 != id) := ⟨_, rfl⟩
                rw [← hus6] at hl6 hfl ⊢
                have HU6 := Lib.hid hus6
                have HL7 := Lib.hid hl6
                have HB6 := Lib.hid hb6
                clear hl6 hb6 hus6 cK fK lK
                go_wp2_with fail
                go_meet
                refine ⟨A6, _, c6, us6, rfl, by omega, HK5.out.below HB6.out, ⟨more P w5 w6, ?_, HL7.out, more_lt HP5.out HB6.out.size⟩, HB5.out.trans (HB6.out.mono HB5.out.size)⟩
                rw [HU6.out]
                exact HQ5.out.more HB6.out
              | false =>
                obtain ⟨cK, fK⟩ := blk_rule HKa.out
                have lK := HKa.out.lt
                go_wp2_with fail
                refine (lawOwn id mode rating since _ pl _ (HS.out.below HBa.out) HF.out).mono ?_
                rintro e w3 ⟨pv3, rfl, hown, hb3⟩
                obtain ⟨A3, c3, rfl, _⟩ := hown.shows.form
                have HS3 := Lib.hid hown.shows
                have HK3 := Lib.hid (HKa.out.below hb3)
                have HQ3 := Lib.hid (HQa.out.more hb3)
                have HL3 := Lib.hid ((HLa.out.below hb3).mono (P' := more P wa w3) (fun k hk => .inl hk))
                have HB3 := Lib.hid (HBa.out.trans (hb3.mono HBa.out.size))
                have HP3 : Hid (∀ k, more P wa w3 k → k < w3.heap.size) := more_lt HPa.out hb3.size
                have HbA3 : Hid (more P wa w3 bA) := .inl HbA.out
                obtain ⟨n3, hn3'⟩ : ∃ n3, n3 = pl.length := ⟨_, rfl⟩
                rw [← hn3'] at HS3 ⊢
                have HN3 := Lib.hid hn3'
                clear hown hb3 cK fK lK hn3'
                go_wp2_with fail
                refine (qu_put HQ3.out (by omega) HP3.out id mode rating since _ pl HS3.out HF.out).mono ?_
                rintro e w4 ⟨rfl, hb4, hst4, hq4⟩
                have HQ4 := Lib.hid hq4
                have HK4 := Lib.hid (hst4.blk HK3.out HbA3.out)
                have HL4 := Lib.hid (HL3.out.stay hb4 hst4)
                have HB4 := Lib.hid (HB3.out.trans hb4)
                have HP4 : Hid (∀ k, more P wa w3 k → k < w4.heap.size) := fun k hk => Nat.lt_of_lt_of_le (HP3.out k hk) hst4.size
                have HQF := Lib.hid HQa.out.few
                obtain ⟨cd, hcd⟩ : ∃ cd, cd = codeR us sizes ⟨id, mode, pl, rating, since⟩ := ⟨_, rfl⟩
                rw [← hcd]
                have HCD := Lib.hid hcd
                clear hq4 hb4 hst4 HK3 HQ3 HL3 HB3 HP3 HS3 hcd
                obtain ⟨cK, fK⟩ := blk_rule HK4.out
                have lK := HK4.out.lt
                go_wp2_with fail
                refine (l_put (w := w) HB4.out HL4.out (by omega) (fun t ht => by have := HQF.out t ht; omega) HM.out HN0.out HC0.out HS.out (by have := HF.out; omega) HP0.out HID.out).mono ?_
                rintro e w5 ⟨v5, rfl, hl5, hb5⟩
                rw [← HSZ.out] at hl5 ⊢
                rw [← HCD.out]
                obtain ⟨A5, c5, rfl⟩ := hl5.form
                have hfl := putR_len us sizes ⟨id, mode, pl, rating, since⟩
                obtain ⟨us5, hus5⟩ : ∃ us5, us5 = (putR us sizes ⟨id, mode, pl, rating, since⟩).1 := ⟨_, rfl⟩
                rw [← hus5] at hl5 hfl ⊢
                have HU5 := Lib.hid hus5
                have HL5 := Lib.hid hl5
                have HB5 := Lib.hid hb5
                have hne : (cd != cd) = false := by simp
                clear hl5 hb5 hus5 cK fK lK
                go_wp2_with fail
                go_meet
                refine ⟨A5, _, c5, us5, rfl, hfl, HK4.out.below HB5.out, ⟨more (more P wa w3) w4 w5, ?_, HL5.out, more_lt HP4.out HB5.out.size⟩, HB4.out.trans (HB5.out.mono HB4.out.size)⟩
                rw [HU5.out]
                exact HQ4.out.more HB5.out
            case rest =>
              obtain ⟨A', n', c', us', rfl, hus', HKc, HRc⟩ := hcut
              clear HQa HLa HPa HbA HBa HKa
              obtain ⟨P', HQc, HLc, HBc⟩ : ∃ P', Hid (QU w.heap.size P' wc g us' sizes) ∧ Hid (LV wc w.heap.size P' (.slice A' n' c') us') ∧ Hid (Below w.heap.size w wc) := by
                obtain ⟨⟨P', h1, h2, _⟩, h4⟩ := HRc.out
                exact ⟨P', h1, h2, h4⟩
              have hus6 : us'.length ≤ 60 := by omega
              rcases hgg : getR us' id with ⟨g0, g1, pl2, g3, g4, is⟩
              have HFE : Hid (pl2.length ≤ 8) := by have := getR_few HQc.out.few id; rw [hgg] at this; exact this
              have HGG := Lib.hid hgg
              clear hgg
              obtain ⟨cK, fK⟩ := blk_rule HKc.out
              have lK := HKc.out.lt
              go_wp2_with fail
              refine (qu_get HQc.out id).mono ?_
              rintro e w3 ⟨A2, c2, rfl, hl, hC, hb⟩
              simp only [HGG.out] at hl hC ⊢
              obtain ⟨n2, hn2⟩ : ∃ n2, n2 = pl2.length := ⟨_, rfl⟩
              rw [← hn2] at hl ⊢
              have HN2 := Lib.hid hn2
              have HL2 := Lib.hid hl
              have HC2 := Lib.hid hC
              have HQ3 := Lib.hid (HQc.out.below hb)
              have HL3 := Lib.hid (HLc.out.below hb)
              have HK3 := Lib.hid (HKc.out.below hb)
              have HR3 := Lib.hid (HRc.out.below hb)
              clear hl hC hb cK fK lK hn2 HQc HLc HBc HKc HRc
              obtain ⟨cK, fK⟩ := blk_rule HK3.out
              obtain ⟨b9, hb9⟩ : ∃ b9, b9 = w3.heap.size := ⟨_, rfl⟩
              have hal := below_al w3 (.cells #[.int .u32 g0, .int .i64 g1, .slice A2 n2 c2, .int .i64 g3, .int .i64 g4] 39)
              have HT9 : Hid (Blk (w3.alloc (.cells #[.int .u32 g0, .int .i64 g1, .slice A2 n2 c2, .int .i64 g3, .int .i64 g4] 39)) b9 #[.int .u32 g0, .int .i64 g1, .slice A2 n2 c2, .int .i64 g3, .int .i64 g4] 39) := by rw [hb9]; exact heap_alloc_new w3 _
              have HAL := Lib.hid hal
              have lK := HK3.out.lt
              clear hal
              go_wp2_with fail
              refine (l_get (HL3.out.below HAL.out) (by omega) id).mono ?_
              rintro e w4 ⟨A3, c3, rfl, hl3, hC3, hb4⟩
              simp only [HGG.out] at hl3 hC3 ⊢
              rw [← HN2.out] at hl3 ⊢
              have hb4' := HAL.out.trans (hb4.mono HAL.out.size)
              have HT4 := Lib.hid (HT9.out.below hb4)
              have HK4 := Lib.hid (HK3.out.below hb4')
              have HQ4 := Lib.hid (HQ3.out.below hb4')
              have HL4 := Lib.hid (HL3.out.below hb4')
              have HR4 := Lib.hid (HR3.out.below hb4')
              have HC4 := Lib.hid (cint_below HC2.out hb4')
              have HL5 := Lib.hid hl3
              have HC5 := Lib.hid hC3
              rw [← hb9]
              clear hl3 hC3 hb4 hb4' HAL HT9 hb9 cK fK lK HK3 HQ3 HL3 HC2 HR3
              obtain ⟨cK, fK⟩ := blk_rule HK4.out
              obtain ⟨cT, fT⟩ := blk_rule HT4.out
              have lK := HK4.out.lt
              have lT := HT4.out.lt
              have hne : (is != is) = false := by simp
              have hal := below_al w4 (.cells #[.int .u32 g0, .int .i64 g1, .slice A3 n2 c3, .int .i64 g3, .int .i64 g4] 36)
              have HAL := Lib.hid hal
              clear hal
              go_wp2_with fail
              refine (l_same g0 g1 g3 g4 (by have := HFE.out; omega) HN2.out HN2.out HL2.out HL5.out (cint_below HC4.out HAL.out) (cint_below HC5.out HAL.out)).mono ?_
              rintro e w5 ⟨rfl, hb5⟩
              have hb5' := HAL.out.trans (hb5.mono HAL.out.size)
              have HK5 := Lib.hid (HK4.out.below hb5')
              have HQ5 := Lib.hid (HQ4.out.below hb5')
              have HL6 := Lib.hid (HL4.out.below hb5')
              have HR5 := Lib.hid (HR4.out.below hb5')
              clear hb5 hb5' HAL HK4 HQ4 HL4 HR4 HC4 HC5 HT4 cK fK cT fT lK lT HL2 HL5 HN2
              obtain ⟨cK, fK⟩ := blk_rule HK5.out
              have lK := HK5.out.lt
              go_wp2_with fail
              refine (qu_like HQ5.out HL6.out (by omega) (by omega)).mono ?_
              rintro e w6 ⟨rfl, hb6⟩
              have HK6 := Lib.hid (HK5.out.below hb6)
              have HQ6 := Lib.hid (HQ5.out.below hb6)
              have HL7 := Lib.hid (HL6.out.below hb6)
              have HR6 := Lib.hid (HR5.out.below hb6)
              have HS6 : Hid (ShowsA w6 .u32 (.slice PA pn pc) pl) := HS.out.below HR6.out.b
              clear hb6 HK5 HQ5 HL6 HR5 cK fK lK hne
              obtain ⟨cK, fK⟩ := blk_rule HK6.out
              have lK := HK6.out.lt
              go_wp2_with fail
              go_loopw [20] (fun i W => ∃ k2 : Nat, k2 ≤ pn ∧ i = .int .i64 k2 ∧ Hid (Below w6.heap.size w6 W)) (fun i _ => pn - (intOf i).toNat)
              case atStart => exact ⟨0, Nat.zero_le _, rfl, Below.refl _ _⟩
              case round =>
                obtain ⟨k2, hk2, rfl, HBk⟩ := hrel
                clear cK fK lK
                have HK7 := Lib.hid (HK6.out.below HBk.out)
                obtain ⟨cK, fK⟩ := blk_rule HK7.out
                have lK := HK7.out.lt
                by_cases hlt2 : k2 < pn
                · obtain ⟨pb, po, pc4, e4, _, lpb, hp4⟩ := ((HS6.out.below HBk.out).pos (by rw [← HPN.out]; omega)).blk (by rw [← HPN.out]; omega)
                  have hp := hp4 k2 (by rw [← HPN.out]; exact hlt2)
                  injection e4 with e4 _ _
                  subst e4
                  generalize pl.getD k2 0 = x at hp
                  obtain ⟨ox, hox⟩ : ∃ ox, ox = ofR us' x := ⟨_, rfl⟩
                  have HQd : Hid (QU w.heap.size P' wr.drew g us' sizes) := HQ6.out.below (HBk.out.trans (((Below.refl wr.heap.size wr).drew).mono HBk.out.size))
                  have HLd : Hid (LV wr.drew w.heap.size P' (.slice A' n' c') us') := HL7.out.below (HBk.out.trans (((Below.refl wr.heap.size wr).drew).mono HBk.out.size))
                  have HFW : Hid (∀ t ∈ us', t.f2.length ≤ 1000) := fun t ht => by have := HQd.out.few t ht; omega
                  have HOX := Lib.hid hox
                  have hne : (ox != ox) = false := by simp
                  have c3' : wr.cell? ⟨bA, 3, none⟩ = some (.slice (some ⟨pb, po, none⟩) pn pc) := cK 3
                  clear hp4 hox
                  go_wp2_with fail
                  go_region_held3 (fun w' => w'.cell? ⟨bA, 3, none⟩ = some (.slice (some ⟨pb, po, none⟩) pn pc) ∧ w'.cell? ⟨pb, po + k2, none⟩ = some (.int .u32 x))
                    (first | exact ⟨c3', hp⟩ | exact ⟨(hbQ.cell (p := ⟨bA, 3, none⟩) lK).trans c3', (hbQ.cell (p := ⟨pb, po + k2, none⟩) lpb).trans hp⟩ | exact ⟨(hbL.cell (p := ⟨bA, 3, none⟩) lK).trans c3', (hbL.cell (p := ⟨pb, po + k2, none⟩) lpb).trans hp⟩ | go_keep)
                    (first
                      | (go_at_call 14; (first | (with_reducible refine (qu_of HQd.out x).mono ?_) | (with_reducible refine (qu_of (HQd.out.below hbL) x).mono ?_)); rintro e w12 ⟨rfl, hbQ'⟩; rw [← HOX.out]; (first | have hbQ := hbL.trans (hbQ'.mono hbL.size) | have hbQ := hbQ'))
                      | (go_at_call 25; (first | (with_reducible refine (l_of HLd.out (by omega) HFW.out x).mono ?_) | (with_reducible refine (l_of (HLd.out.below hbQ) (by omega) HFW.out x).mono ?_)); rintro e w13 ⟨rfl, hbL'⟩; rw [← HOX.out]; (first | have hbL := hbQ.trans (hbL'.mono hbQ.size) | have hbL := hbL')))
                  all_goals
                    go_wp2_with fail
                    go_roundw
                    case rel => first | exact ⟨k2 + 1, by omega, by go_num, HBk.out.trans ((((Below.refl wr.heap.size wr).drew).trans hbL).mono HBk.out.size)⟩ | exact ⟨k2 + 1, by omega, by go_num, HBk.out.trans ((((Below.refl wr.heap.size wr).drew).trans hbQ).mono HBk.out.size)⟩
                    case measure => simp [intOf]; omega
                · have hge2 : ¬ ((k2 : Int) < (pn : Int)) := by omega
                  have HR7 := Lib.hid (HR6.out.below HBk.out)
                  go_wp2_with fail
                  go_roundw
                  case rel => exact ⟨k + 1, A', n', c', us', by omega, rfl, by go_num, by omega, HR7⟩
                  case measure => simp [intOf]; omega
        · have hge : ¬ ((k : Int) < (N : Int)) := by omega
          go_wp2_with (first | (go_at_call 16; refine (awake_any _).mono ?_; rintro e w21 ⟨rfl, hb21⟩))
          go_ret
          exact ⟨rfl, HR.out.b.trans (hb21.mono HR.out.b.size)⟩
end Go.Proofs.Ytlkpmlcmgggifaa
namespace Go.Proofs.Ytlkpmlcmgggifaa
open Go.ChangeShapes Go.WideShapes Go.ChangeAt Go.RowKit Go.Deep
open Go.Proofs.Ytlkpmlcmgggifaa.PQueueRuns
open Go.Proofs.YtlkpmlcmgggifaaW.PrintWords (Kd)
theorem lawOwnKnob : ownKnob Try.prog.godebug = none := by kernel_rfl
theorem lawLaidOut : laidOutB Try.prog = true := by kernel_rfl
theorem lawCells : Try.prog.cellsOf 36 = 5 := by kernel_rfl
theorem lawCellsA : Try.prog.cellsOf 56 = 6 := by kernel_rfl
theorem lawCellsM : Try.prog.cellsOf 123 = 5 := by kernel_rfl
theorem lawCellsU : Try.prog.cellsOf 33 = 1 := by kernel_rfl
theorem lawCellsI : Try.prog.cellsOf 3 = 1 := by kernel_rfl
theorem lawCellsL : Try.prog.cellsOf 2 = 1 := by kernel_rfl
theorem lawCellsB : Try.prog.cellsOf 4 = 1 := by kernel_rfl
theorem lawCellsS : Try.prog.cellsOf 34 = 1 := by kernel_rfl
theorem add_add (a : Addr) (x y : Nat) : (a.add x).add y = a.add (x + y) := by
  obtain ⟨b, o, s⟩ := a
  unfold Addr.add
  by_cases hx : x = 0
  · subst hx; simp
  · by_cases hy : y = 0
    · subst hy; simp
    · simp [hx, hy, Nat.add_assoc]
/-- A row of ids, as it reads. -/
theorem ids_of_trod {H : Type} {enc : TypeId × Value → H} {W : World} {fuel : Nat} {cs : List Value} {x : DataW H × List MemPlace} (h : DataW.trod enc Try.prog W 0 (fun _ => true) true fuel 34 cs = some x) : ∃ v xs, cs = [v] ∧ ShowsA W .u32 v xs ∧ ∀ p ∈ xs, 0 ≤ p := by
  rcases open_slice1 Try.underlying34 lawCellsU h with ⟨rfl, _⟩ | ⟨a, len, cap, m, n, V, D, Pl, rfl, _, hl, hm, hmm, _, hx⟩
  · exact ⟨_, [], rfl, .inl (.inl ⟨rfl, rfl⟩), by simp⟩
  · have hmc : m = cap := by simpa using hmm
    subst hmc
    rcases Nat.eq_zero_or_pos len with h0 | hp
    · subst h0
      exact ⟨_, [], rfl, .inr ⟨rfl, a, m, rfl⟩, by simp⟩
    · have hV : ∀ i, i < m → ∃ z : Int, V i = .int .u32 z ∧ 0 ≤ z := fun i hi => by
        obtain ⟨z, hz, _, hw⟩ := DataW.trod_int Try.underlying33 (hx i hi).2
        exact ⟨z, by simpa using hz, by simp [Lit.wf] at hw; have : IntKind.u32.min = 0 := rfl; omega⟩
      obtain ⟨Z, hZ⟩ := choose_lt (α := Int) (p := fun i z => V i = .int .u32 z ∧ 0 ≤ z) hV
      obtain ⟨b, off, spot⟩ := a
      have hc0 := (hx 0 (by omega)).1
      have hspot : spot = none := by simpa [Addr.add] using World.cell?_spot hc0
      subst hspot
      have hlt : b < W.heap.size := by
        rw [Addr.add_lit] at hc0
        exact cell_lt hc0
      refine ⟨_, (List.range len).map Z, rfl, .inl (.inr ⟨b, off, m, by simp, by simpa using hl, hm, hlt, ?_⟩), ?_⟩
      · intro j hj
        have hj' : j < len := by simpa using hj
        have := (hx j (by omega)).1
        rw [Addr.add_lit, (hZ j (by omega)).1] at this
        simpa [List.getD, hj'] using this
      · intro p hp
        obtain ⟨i, hi, rfl⟩ := List.mem_map.1 hp
        exact (hZ i (by have := List.mem_range.1 hi; omega)).2
theorem modes_of_trod {H : Type} {enc : TypeId × Value → H} {W : World} {fuel : Nat} {cs : List Value} {x : DataW H × List MemPlace} (h : DataW.trod enc Try.prog W 0 (fun _ => true) true fuel 52 cs = some x) : ∃ A n c ms, cs = [.slice A n c] ∧ k123.C W A ms.length ms ∧ n = ms.length ∧ n ≤ c := by
  rcases open_slice Try.underlying52 h with ⟨rfl, _⟩ | ⟨a, len, cap, m, n, D, Pl, rfl, _, hl, hm, hmm, _, hx⟩
  · exact ⟨none, 0, 0, [], rfl, ⟨rfl, by simp, fun h => by simp at h⟩, rfl, Nat.le_refl _⟩
  · have hmc : m = cap := by simpa using hmm
    subst hmc
    rw [lawCellsM] at hx
    have hT : ∀ i, i < m → ∃ t : S123, ∀ j, j < 5 → W.cell? ((a.add (i * 5)).add j) = ([.int .i64 t.f0, .int .i64 t.f1, .int .i64 t.f2, .int .i64 t.f3, .int .i64 t.f4] : List Value)[j]? := fun i hi => by
      obtain ⟨cs', h1, h2⟩ := hx i hi
      obtain ⟨_, hlen, hcell⟩ := World.cells?_some h1
      obtain ⟨c0, c1, c2, c3, c4, rfl⟩ : ∃ c0 c1 c2 c3 c4, cs' = [c0, c1, c2, c3, c4] := by
        match cs', hlen with
        | [c0, c1, c2, c3, c4], _ => exact ⟨c0, c1, c2, c3, c4, rfl⟩
      obtain ⟨ys, n', _, _, _, hys, hf⟩ := DataW.trod_struct Try.underlying123 h2
      match ys, hys with
      | [y0, y1, y2, y3, y4], _ =>
      have f0 : DataW.trod enc Try.prog W 0 (fun _ => true) true n' 3 [c0] = some y0 := by simpa [lawCellsI] using hf 0 _ rfl
      have f1 : DataW.trod enc Try.prog W 0 (fun _ => true) true n' 3 [c1] = some y1 := by simpa [lawCellsI] using hf 1 _ rfl
      have f2 : DataW.trod enc Try.prog W 0 (fun _ => true) true n' 3 [c2] = some y2 := by simpa [lawCellsI] using hf 2 _ rfl
      have f3 : DataW.trod enc Try.prog W 0 (fun _ => true) true n' 3 [c3] = some y3 := by simpa [lawCellsI] using hf 3 _ rfl
      have f4 : DataW.trod enc Try.prog W 0 (fun _ => true) true n' 2 [c4] = some y4 := by simpa [lawCellsI, lawCellsL] using hf 4 _ rfl
      obtain ⟨z0, e0, _⟩ := DataW.trod_int Try.underlying3 f0
      obtain ⟨z1, e1, _⟩ := DataW.trod_int Try.underlying3 f1
      obtain ⟨z2, e2, _⟩ := DataW.trod_int Try.underlying3 f2
      obtain ⟨z3, e3, _⟩ := DataW.trod_int Try.underlying3 f3
      obtain ⟨z4, e4, _⟩ := DataW.trod_int Try.underlying2 f4
      simp only [List.cons.injEq, and_true] at e0 e1 e2 e3 e4
      subst e0 e1 e2 e3 e4
      exact ⟨⟨z0, z1, z2, z3, z4⟩, fun j hj => hcell j hj⟩
    have : Inhabited S123 := ⟨z123⟩
    obtain ⟨T, hTT⟩ := choose_lt (α := S123) (p := fun i t => ∀ j, j < 5 → W.cell? ((a.add (i * 5)).add j) = ([.int .i64 t.f0, .int .i64 t.f1, .int .i64 t.f2, .int .i64 t.f3, .int .i64 t.f4] : List Value)[j]?) hT
    refine ⟨_, len, m, (List.range len).map T, rfl, ⟨rfl, by simp only [List.length_map, List.length_range]; unfold maxLen at hm; omega, fun _ => ⟨a, rfl, fun j p hj => ?_⟩⟩, by simp, hl⟩
    obtain ⟨hjl, e⟩ := List.getElem?_eq_some_iff.1 hj
    have hjl' : j < len := by simpa using hjl
    have ep : T j = p := by simpa using e
    subst ep
    refine ⟨_, rfl, k123_mk W (T j), fun i u hu => ?_⟩
    have hi : i < 5 := (List.getElem?_eq_some_iff.1 hu).1
    have := hTT j (by omega) i hi
    rw [add_add] at this
    exact this.trans hu
theorem acts_of_trod {H : Type} {enc : TypeId × Value → H} {W : World} {fuel : Nat} {cs : List Value} {x : DataW H × List MemPlace} (h : DataW.trod enc Try.prog W 0 (fun _ => true) true fuel 53 cs = some x) : ∃ A n c, cs = [.slice A n c] ∧ ArgA W A n := by
  rcases open_slice Try.underlying53 h with ⟨rfl, _⟩ | ⟨a, len, cap, m, n, D, Pl, rfl, _, hl, hm, hmm, _, hx⟩
  · exact ⟨none, 0, 0, rfl, by unfold maxLen; omega, fun k hk => absurd hk (by omega)⟩
  · have hmc : m = cap := by simpa using hmm
    subst hmc
    refine ⟨_, len, m, rfl, Nat.le_trans hl hm, fun i hi => ?_⟩
    rw [lawCellsA] at hx
    obtain ⟨b, off, spot⟩ := a
    have key : ∀ i, i < m → ∃ dr id mode pv pl rating since, (∀ j, j < 6 → W.cell? (((⟨b, off, spot⟩ : Addr).add (i * 6)).add j) = ([.bool dr, .int .u32 id, .int .i64 mode, pv, .int .i64 rating, .int .i64 since] : List Value)[j]?) ∧ ShowsA W .u32 pv pl ∧ 0 ≤ id ∧ ∀ p ∈ pl, 0 ≤ p := fun i hi => by
      obtain ⟨cs', h1, h2⟩ := hx i hi
      obtain ⟨_, hlen, hcell⟩ := World.cells?_some h1
      obtain ⟨cb, c0, c1, c2, c3, c4, rfl⟩ : ∃ cb c0 c1 c2 c3 c4, cs' = [cb, c0, c1, c2, c3, c4] := by
        match cs', hlen with
        | [cb, c0, c1, c2, c3, c4], _ => exact ⟨cb, c0, c1, c2, c3, c4, rfl⟩
      obtain ⟨ys, n', _, _, _, hys, hf⟩ := DataW.trod_struct Try.underlying56 h2
      match ys, hys with
      | [yb, yt], _ =>
      have fb : DataW.trod enc Try.prog W 0 (fun _ => true) true n' 4 [cb] = some yb := by simpa [lawCellsB] using hf 0 _ rfl
      have ft : DataW.trod enc Try.prog W 0 (fun _ => true) true n' 36 [c0, c1, c2, c3, c4] = some yt := by simpa [lawCellsB, lawCells] using hf 1 _ rfl
      obtain ⟨bb, eb, _⟩ := DataW.trod_bool Try.underlying4 fb
      obtain ⟨ys, n'', _, _, _, hys, hf⟩ := DataW.trod_struct Try.underlying36 ft
      match ys, hys with
      | [y0, y1, y2, y3, y4], _ =>
      have f0 : DataW.trod enc Try.prog W 0 (fun _ => true) true n'' 33 [c0] = some y0 := by simpa [lawCellsU] using hf 0 _ rfl
      have f1 : DataW.trod enc Try.prog W 0 (fun _ => true) true n'' 3 [c1] = some y1 := by simpa [lawCellsI] using hf 1 _ rfl
      have f2 : DataW.trod enc Try.prog W 0 (fun _ => true) true n'' 34 [c2] = some y2 := by simpa [lawCellsS] using hf 2 _ rfl
      have f3 : DataW.trod enc Try.prog W 0 (fun _ => true) true n'' 3 [c3] = some y3 := by simpa [lawCellsI] using hf 3 _ rfl
      have f4 : DataW.trod enc Try.prog W 0 (fun _ => true) true n'' 2 [c4] = some y4 := by simpa [lawCellsL] using hf 4 _ rfl
      obtain ⟨z0, e0, _, w0⟩ := DataW.trod_int Try.underlying33 f0
      obtain ⟨z1, e1, _⟩ := DataW.trod_int Try.underlying3 f1
      obtain ⟨v2, xs, e2, hs, hp⟩ := ids_of_trod f2
      obtain ⟨z3, e3, _⟩ := DataW.trod_int Try.underlying3 f3
      obtain ⟨z4, e4, _⟩ := DataW.trod_int Try.underlying2 f4
      simp only [List.cons.injEq, and_true] at eb e0 e1 e2 e3 e4
      subst eb e0 e1 e2 e3 e4
      exact ⟨bb, z0, z1, c2, xs, z3, z4, fun j hj => hcell j hj, hs, by simp [Lit.wf] at w0; have : IntKind.u32.min = 0 := rfl; omega, hp⟩
    obtain ⟨dr0, id0, _, _, _, _, _, hc0, _⟩ := key 0 (by omega)
    have hspot : spot = none := by simpa [Addr.add] using World.cell?_spot (v := .bool dr0) (hc0 0 (by omega))
    subst hspot
    obtain ⟨dr, id, mode, pv, pl, rating, since, hc, hs, hid, hp⟩ := key i (by omega)
    obtain ⟨PA, pc, rfl⟩ := hs.form
    simp only [Addr.add_lit] at hc
    exact ⟨b, off, dr, id, mode, PA, _, pc, pl, rating, since, rfl, cell_lt (v := .bool dr) (hc 0 (by omega)), rfl, hs, hid, hp, hc 0 (by omega), hc 1 (by omega), hc 2 (by omega), hc 3 (by omega), hc 4 (by omega), hc 5 (by omega)⟩
set_option maxRecDepth 100000 in
theorem queueRuns_lifted (os : Os) (started : os.Started) (H : Type) (enc : TypeId × Value → H) :
    ReturnsInHanded {} Try.checked os 4 .any (Rows.queueRunsSpec.pre6 enc Try.prog Try.f4 Rows.queueRunsRow.domain false) (Rows.queueRunsSpec.post enc Try.prog Try.f4 false true false false) := by
  refine returnsInHanded_of_change (C := Try.checked) lawOwnKnob started (by kernel_rfl) Try.func4
    (ChangeSpec.witness6 (enc := enc) (C := Try.checked) false ⟨#[], #[.slice none 0 0, .slice none 0 0], []⟩ 8 (by kernel_rfl) (by kernel_rfl) (by kernel_rfl) (by kernel_rfl)) ?_
  intro W base args ds gs before hval0 hW hcnd _
  have hval : ∀ (j : Nat) t v, Try.f4.params[j]? = some t → args[j]? = some v → Value.okWide Try.prog W .any base t v := hval0
  have hW' := hW
  obtain ⟨p, q, hA0, hV, rfl, hfz, hnd⟩ := hW
  have hA : DataW.TrodAll enc Try.prog W 0 (fun _ => true) true Try.f4.params.toList args.toList ds p := hA0
  rw [Try.params4] at hA hval
  obtain ⟨v0, vs0, d0, ds0, p0, q0, hargs, rfl, rfl, h0, r0⟩ := trodAll_cons hA
  obtain ⟨v1, vs1, d1, ds1, p1, q1, rfl, rfl, rfl, h1, r1⟩ := trodAll_cons r0
  obtain ⟨rfl, rfl, rfl⟩ := trodAll_nil r1
  obtain rfl : args = #[v0, v1] := by cases args; simp_all
  obtain ⟨rfl, rfl⟩ := trodVars_none hV
  have k0 := h0
  have k1 := h1
  have lt0 : ∀ x ∈ p0, x.block < W.heap.size := by obtain ⟨m, hm⟩ := k0; exact DataW.trod_lt m _ _ _ hm
  have lt1 : ∀ x ∈ p1, x.block < W.heap.size := by obtain ⟨m, hm⟩ := k1; exact DataW.trod_lt m _ _ _ hm
  obtain ⟨a0, len0, cap0, rfl⟩ := okWide_slice Try.underlying52 (hval 0 52 v0 rfl rfl)
  obtain ⟨a1, len1, cap1, rfl⟩ := okWide_slice Try.underlying53 (hval 1 53 v1 rfl rfl)
  obtain ⟨ms, hm0, hm1, hm2⟩ : ∃ ms, k123.C W a0 ms.length ms ∧ len0 = ms.length ∧ len0 ≤ cap0 := by
    obtain ⟨fuel, hf⟩ := h0
    obtain ⟨A, n, c, ms, e, h⟩ := modes_of_trod hf
    have e' : Value.slice a0 len0 cap0 = .slice A n c := by simpa [Value.cells] using e
    injection e' with e1 e2 e3
    subst e1 e2 e3
    exact ⟨ms, h⟩
  have hargA : ArgA W a1 len1 := by
    obtain ⟨fuel, hf⟩ := h1
    obtain ⟨A, n, c, e, h⟩ := acts_of_trod hf
    have e' : Value.slice a1 len1 cap1 = .slice A n c := by simpa [Value.cells] using e
    injection e' with e1 e2 e3
    subst e1 e2 e3
    exact h
  clear hA0 hval0
  refine (runs_any W a0 a1 len0 cap0 len1 cap1 ms hm0 hm1 hm2 hargA).mono fun e W' ⟨he, bel⟩ => ?_
  subst he
  exact ⟨_, rfl, _, _, _, [], _, [], hW', trodAll_mk1 (shut_bool Try.underlying4 _), (trodAll_cons_mk (Below.trod lawLaidOut (by kernel_rfl) (of_decide_eq_true (by kernel_rfl)) k0 bel lt0) (trodAll_cons_mk (Below.trod lawLaidOut (by kernel_rfl) (of_decide_eq_true (by kernel_rfl)) k1 bel lt1) trodAll_mk0)), rfl, bel.frame _, fun h => by cases h⟩
theorem queueRuns_holds : Rows.QueueRunsSaid :=
  OpenClaim.holds_of_wide 4 Try.f4 rfl rfl rfl rfl rfl rfl rfl ⟨rfl, rfl, rfl, rfl, rfl⟩ rfl rfl rfl rfl rfl (by kernel_rfl) Try.func4 (by kernel_rfl)
    (of_decide_eq_true (by kernel_rfl)) (by unfold Func.isWrapper; first | (rw [if_pos (by decide +kernel)]; kernel_rfl) | (rw [if_neg (by decide +kernel)]; exact ⟨rfl, rfl⟩))
    (fun os started H enc _ => queueRuns_lifted os started H enc)
end Go.Proofs.Ytlkpmlcmgggifaa
