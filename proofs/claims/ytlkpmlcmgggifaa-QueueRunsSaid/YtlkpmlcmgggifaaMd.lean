/- The document's queue in memory: what its functions answer. -/
import Derived.Test.YtlkpmlcmgggifaaXc
import Derived.Test.YtlkpmlcmgggifaaMc
set_option linter.unusedVariables false
set_option linter.unusedSimpArgs false
namespace Go.Proofs.Ytlkpmlcmgggifaa
open Go.RowKit Go.Proofs.Ytlkpmlcmgggifaa.PQueueRuns
open Go.Proofs.YtlkpmlcmgggifaaW.PrintWords
/-- v shows the document's tickets us: rows made since B lie in P. -/
def LV (W : World) (B : Nat) (P : Nat → Prop) (v : Value) (us : List S36) : Prop := Kd.V k36 36 W B (fun k => k < B ∨ P k) v us
theorem LV.below {W W' : World} {B : Nat} {P : Nat → Prop} {v : Value} {us : List S36} (h : LV W B P v us) (hb : Below W.heap.size W W') : LV W' B P v us := Kd.V_below h hb
theorem LV.form {W : World} {B : Nat} {P : Nat → Prop} {v : Value} {us : List S36} (h : LV W B P v us) : ∃ A c, v = .slice A us.length c := Kd.V_slice h
theorem LV.nil (W : World) (B : Nat) (P : Nat → Prop) : LV W B P (.slice none 0 0) [] := Kd.V_nil _ _ _ _ _
theorem LV.len {W : World} {B : Nat} {P : Nat → Prop} {A : Option Addr} {n c : Nat} {us : List S36} (h : LV W B P (.slice A n c) us) : n = us.length := (Kd.V_at h).1
theorem c_of_shows {w : World} {v : Value} {xs : List Int} (h : ShowsA w .u32 v xs) : ∃ A c, v = .slice A xs.length c ∧ xs.length ≤ c ∧ (Kd.int .u32).C w A xs.length xs := by
  rcases h with (⟨rfl, rfl⟩ | ⟨b, off, c, rfl, hlc, hm, hlt, hc⟩) | ⟨rfl, a, c, rfl⟩
  · exact ⟨none, 0, rfl, Nat.le_refl _, Kd.C_of_reads (d := 0) ⟨rfl, by simp, fun h => by simp at h⟩⟩
  · refine ⟨_, c, rfl, hlc, Kd.C_of_reads (d := 0) ⟨rfl, Nat.le_trans hlc (by unfold maxLen at hm; omega), fun h => ⟨_, rfl, fun j hj => ?_⟩⟩⟩
    rw [Addr.add_lit]
    exact hc j hj
  · exact ⟨_, c, rfl, Nat.zero_le _, Kd.C_of_reads (d := 0) ⟨rfl, by simp, fun h => by simp at h⟩⟩
theorem c_at {w : World} {A : Option Addr} {n c : Nat} {xs : List Int} (h : ShowsA w .u32 (.slice A n c) xs) : n = xs.length ∧ n ≤ c ∧ (Kd.int .u32).C w A xs.length xs := by
  obtain ⟨A', c', e, h1, h2⟩ := c_of_shows h
  injection e with e1 e2 e3
  subst e1 e2 e3
  exact ⟨rfl, h1, h2⟩
theorem v_of_C {w : World} {A : Option Addr} {c e base : Nat} {xs : List Int} (hc : xs.length ≤ c) (h : (Kd.int .u32).C w A xs.length xs) : Kd.V (Kd.int .u32) e w base (fun k => k < w.heap.size) (.slice A xs.length c) xs :=
  ⟨A, c, rfl, hc, fun W' hW => (Kd.heap_int .u32).C (fun k hk => hW k hk hk) h⟩
theorem cint_below {w w' : World} {A : Option Addr} {n : Nat} {xs : List Int} (h : (Kd.int .u32).C w A n xs) (hb : Below w.heap.size w w') : (Kd.int .u32).C w' A n xs := Kd.C_below h hb
def GetL (W w' : World) (g : Int × Int × List Int × Int × Int × Bool) (e : Ending) : Prop :=
  ∃ A2 c2, e = .returned (.tuple #[.agg #[.int .u32 g.1, .int .i64 g.2.1, .slice A2 g.2.2.1.length c2, .int .i64 g.2.2.2.1, .int .i64 g.2.2.2.2.1], .bool g.2.2.2.2.2]) ∧ g.2.2.1.length ≤ c2 ∧ (Kd.int .u32).C w' A2 g.2.2.1.length g.2.2.1 ∧ Below W.heap.size W w'
theorem l_get {W : World} {B : Nat} {P : Nat → Prop} {A : Option Addr} {n c : Nat} {us : List S36} (h : LV W B P (.slice A n c) us) (hn : us.length ≤ 300) (a : Int) :
    Calls Try.prog 19 #[.slice A n c, .int .u32 a] W fun e w' => GetL W w' (getR us a) e := by
  obtain rfl := h.len
  rcases hg : getR us a with ⟨r1, r2, r3, r4, r5, r6⟩
  obtain ⟨k, hk⟩ := (get_ev us a (by omega)).rounds
  rw [hg] at hk
  refine (tiltyardref17_Get.calls k (fun k => k < B ∨ P k) A c us a r1 r2 r3 r4 r5 r6 W h hk).mono ?_
  rintro e w' ⟨v2, rfl, hv, hb⟩
  obtain ⟨A2, c2, rfl, hl, hf⟩ := hv
  exact ⟨A2, c2, rfl, hl, Kd.F_now hf, hb⟩
theorem l_of {W : World} {B : Nat} {P : Nat → Prop} {A : Option Addr} {n c : Nat} {us : List S36} (h : LV W B P (.slice A n c) us) (hn : us.length ≤ 300) (hp : ∀ t ∈ us, t.f2.length ≤ 1000) (p : Int) :
    Calls Try.prog 25 #[.slice A n c, .int .u32 p] W fun e w' => e = .returned (.int .u32 (ofR us p)) ∧ Below W.heap.size W w' := by
  obtain ⟨rfl, hl, hC⟩ := Kd.V_reads' h
  obtain ⟨k, hk⟩ := (of_ev us p (by omega) hp).rounds
  refine (tiltyardref17_Of.calls k A c us p _ W hC hl hk).mono ?_
  rintro e w' ⟨rfl, hb⟩
  exact ⟨rfl, hb.below⟩
/-- P, and what is new -/
def more (P : Nat → Prop) (W w' : World) (k : Nat) : Prop := P k ∨ (W.heap.size ≤ k ∧ k < w'.heap.size)
theorem l_without {W : World} {B : Nat} {P : Nat → Prop} {A : Option Addr} {n c : Nat} {us : List S36} (h : LV W B P (.slice A n c) us) (hn : us.length ≤ 300) (a : Int) :
    Calls Try.prog 21 #[.slice A n c, .int .u32 a] W fun e w' => ∃ v', e = .returned v' ∧ LV w' B (more P W w') v' (us.filter (fun t => t.f0 != a)) ∧ Below W.heap.size W w' := by
  obtain rfl := h.len
  obtain ⟨k, hk⟩ := (without_ev us a (by omega)).rounds
  refine (tiltyardref17_Without.calls k (fun k => k < B ∨ P k) A c us a _ W h hk).mono ?_
  rintro e w' ⟨v', rfl, hv, hb⟩
  refine ⟨v', rfl, Kd.V_mono (Kd.V_bound (base := B) (Kd.N_V hv)) ?_, hb⟩
  rintro k ⟨(h1 | h1) | h1, h2⟩
  · exact .inl h1
  · exact .inr (.inl h1)
  · exact .inr (.inr ⟨h1, h2⟩)
theorem l_mode {W : World} {B : Nat} {P : Nat → Prop} {A : Option Addr} {n c : Nat} {us : List S36} (h : LV W B P (.slice A n c) us) (hn : us.length ≤ 300) (m : Int) :
    Calls Try.prog 67 #[.slice A n c, .int .i64 m] W fun e w' => ∃ A' c', e = .returned (.slice A' (modeR us m).length c') ∧ k36.C w' A' (modeR us m).length (modeR us m) ∧ Below W.heap.size W w' := by
  obtain rfl := h.len
  obtain ⟨k, hk⟩ := (mode_ev us m (by omega)).rounds
  refine (tiltyardref17_Mode.calls k (fun k => k < B ∨ P k) A c us m _ W h hk).mono ?_
  rintro e w' ⟨v', rfl, hv, hb⟩
  obtain ⟨A', c', rfl, hl, hC⟩ := Kd.N_reads hv
  exact ⟨A', c', rfl, hC, hb⟩
theorem l_put {W w : World} {P : Nat → Prop} {A A1 A2 : Option Addr} {n c n1 c1 n2 c2 : Nat} {us : List S36} {ms : List S123} {id mode rating since : Int} {pl : List Int} (hB : Below w.heap.size w W) (h : LV W w.heap.size P (.slice A n c) us) (hn : us.length ≤ 300) (hp : ∀ t ∈ us, t.f2.length ≤ 1000)
    (h1 : k123.C w A1 ms.length ms) (hn1 : n1 = ms.length) (hc1 : n1 ≤ c1) (h2 : ShowsA w .u32 (.slice A2 n2 c2) pl) (hpl : pl.length ≤ 1000) (h0 : ∀ p ∈ pl, 0 ≤ p) (hi : 0 ≤ id) :
    Calls Try.prog 22 #[.slice A n c, .slice A1 n1 c1, .agg #[.int .u32 id, .int .i64 mode, .slice A2 n2 c2, .int .i64 rating, .int .i64 since]] W fun e w' =>
      ∃ v', e = .returned (.tuple #[v', .int .i64 (codeR us (ms.map S123.f0) ⟨id, mode, pl, rating, since⟩)]) ∧ LV w' w.heap.size (more P W w') v' (putR us (ms.map S123.f0) ⟨id, mode, pl, rating, since⟩).1 ∧ Below W.heap.size W w' := by
  obtain rfl := h.len
  obtain ⟨rfl, hl2, hC2⟩ := c_at h2
  subst hn1
  obtain ⟨k, hk⟩ := (put_ev us ms ⟨id, mode, pl, rating, since⟩ hn hp hpl h0 hi).rounds
  have hV2 : Kd.V (Kd.int .u32) 33 W W.heap.size (fun k => k < w.heap.size) (.slice A2 pl.length c2) pl := Kd.V_below (v_of_C hl2 hC2) hB
  refine (tiltyardref17_Put.calls k (fun k => k < w.heap.size ∨ P k) A c us A1 c1 ms id mode (fun k => k < w.heap.size) A2 c2 pl rating since _ _ W h (Kd.C_below h1 hB) hc1 hV2 hk).mono ?_
  rintro e w' ⟨v', rfl, hv, hb⟩
  refine ⟨v', rfl, Kd.V_mono (Kd.V_bound (base := w.heap.size) hv) ?_, hb⟩
  rintro k ⟨((h1 | h1) | h1) | h1, h2⟩
  · exact .inl h1
  · exact .inr (.inl h1)
  · exact .inl h1
  · exact .inr (.inr ⟨h1, h2⟩)
theorem l_same {W : World} (id mode rating since : Int) {pl : List Int} {A1 A2 : Option Addr} {n1 c1 n2 c2 : Nat} (hpl : pl.length ≤ 1000) (e1 : n1 = pl.length) (e2 : n2 = pl.length) (l1 : n1 ≤ c1) (l2 : n2 ≤ c2) (h1 : (Kd.int .u32).C W A1 pl.length pl) (h2 : (Kd.int .u32).C W A2 pl.length pl) :
    Calls Try.prog 20 #[.agg #[.int .u32 id, .int .i64 mode, .slice A1 n1 c1, .int .i64 rating, .int .i64 since], .agg #[.int .u32 id, .int .i64 mode, .slice A2 n2 c2, .int .i64 rating, .int .i64 since]] W fun e w' => e = .returned (.bool true) ∧ Below W.heap.size W w' := by
  subst e1 e2
  obtain ⟨k, hk⟩ := (same_ev id mode pl rating since hpl).rounds
  exact tiltyardlaw17_same.calls k id mode A1 c1 pl rating since id mode A2 c2 pl rating since true W h1 l1 h2 l2 hk
def mdOf (t : S123) : Md := ⟨t.f0, t.f1, t.f2, t.f3, t.f4⟩
theorem shows_modes {w : World} {base : Nat} {ok : Nat → Prop} {v : Value} {xs : List S32} (h : k32.R 32 w base ok v xs) : ShowsM w v (xs.map (fun t => (⟨t.f0, t.f1, t.f2, t.f3, t.f4⟩ : Md))) := by
  obtain ⟨_, inner, ho, hr⟩ := h
  have hM : ∀ (i : Nat) (hi : i < xs.length), (inner.drop (i * 5)).take 5 = [.int .i64 xs[i].f0, .int .i64 xs[i].f1, .int .i64 xs[i].f2, .int .i64 xs[i].f3, .int .i64 xs[i].f4] := fun i hi => k32_openM (hr.2 i _ (List.getElem?_eq_getElem hi))
  have hlen : inner.length = xs.length * 5 := hr.1
  rcases ho.2 with ⟨rfl, hn⟩ | ⟨g, cap, cur, rfl, hb, hgg, hnc, hcm, hcs, ht⟩
  · have : xs = [] := List.eq_nil_of_length_eq_zero hn
    subst this
    exact ⟨none, 0, rfl, fun h => by simp at h⟩
  · refine ⟨_, cap, by rw [List.length_map], fun hp => ⟨g, rfl, (Array.getElem?_eq_some_iff.1 hgg).1, fun i hi => ?_⟩⟩
    have hi' : i < xs.length := by simpa using hi
    have ho' : w.ownsRow base 32 5 (.slice (some ⟨g, 0, none⟩) xs.length cap) xs.length inner := ho
    have hc : ∀ j (hj : j < 5), w.cell? ⟨g, i * 5 + j, none⟩ = ([.int .i64 xs[i].f0, .int .i64 xs[i].f1, .int .i64 xs[i].f2, .int .i64 xs[i].f3, .int .i64 xs[i].f4] : List Value)[j]? := fun j hj => by
      rw [ho'.cellAt (i * 5 + j) (by omega), ← hM i hi']
      rw [List.getElem?_take, if_pos hj, List.getElem?_drop]
    have hg : (xs.map (fun t => (⟨t.f0, t.f1, t.f2, t.f3, t.f4⟩ : Md))).getD i Md.zero = ⟨xs[i].f0, xs[i].f1, xs[i].f2, xs[i].f3, xs[i].f4⟩ := by simp [List.getD, hi']
    rw [hg]
    exact ⟨hc 0 (by omega), hc 1 (by omega), hc 2 (by omega), hc 3 (by omega), hc 4 (by omega)⟩
theorem l_config {W : World} {A : Option Addr} {n c : Nat} {ms : List S123} (h : k123.C W A ms.length ms) (hn : n = ms.length) (hc : n ≤ c) (hm : ms.length ≤ 1000) :
    Calls Try.prog 17 #[.slice A n c] W fun e w' => ∃ v', e = .returned (.agg #[.string ⟨#[]⟩, .int .i64 0, .int .i64 0, .int .i64 0, .int .i64 0, .int .i64 0, .int .i64 0, .int .i64 0, .int .i64 0, .int .i64 0, .int .i64 0, .int .i64 0, .int .i64 0, v']) ∧ ShowsM w' v' (ms.map mdOf) ∧ Below W.heap.size W w' := by
  subst hn
  obtain ⟨k, hk⟩ := (config_ev ms hm).rounds
  refine (tiltyardlaw17_config.calls k A c ms _ _ _ _ _ _ _ _ _ _ _ _ _ _ W h hc hk).mono ?_
  rintro e w' ⟨v', rfl, hR, hb⟩
  have := shows_modes hR
  rw [List.map_map] at this
  exact ⟨v', rfl, this, hb⟩
end Go.Proofs.Ytlkpmlcmgggifaa
namespace Go.Proofs.Ytlkpmlcmgggifaa
open Go.RowKit Go.Proofs.Ytlkpmlcmgggifaa.PQueueRuns
open Go.Proofs.YtlkpmlcmgggifaaW.PrintWords
theorem c36_at {w : World} {A : Option Addr} {n : Nat} {xs : List S36} (h : k36.C w A n xs) {i : Nat} (hi : i < n) : ∃ b off A2 n2 c2, A = some ⟨b, off, none⟩ ∧ n2 = (rd_T36 xs i).f2.length ∧ n2 ≤ c2 ∧ (Kd.int .u32).C w A2 n2 (rd_T36 xs i).f2 ∧
    w.cell? ⟨b, off + i * 5, none⟩ = some (.int .u32 (rd_T36 xs i).f0) ∧ w.cell? ⟨b, off + i * 5 + 1, none⟩ = some (.int .i64 (rd_T36 xs i).f1) ∧ w.cell? ⟨b, off + i * 5 + 2, none⟩ = some (.slice A2 n2 c2) ∧ w.cell? ⟨b, off + i * 5 + 3, none⟩ = some (.int .i64 (rd_T36 xs i).f3) ∧ w.cell? ⟨b, off + i * 5 + 4, none⟩ = some (.int .i64 (rd_T36 xs i).f4) := by
  obtain ⟨ad, c, rfl, _, hK, hc0⟩ := Kd.C_get h z36 (i : Int) (by omega) (by omega)
  have hc : ∀ j u, c[j]? = some u → w.cell? (ad.add (i * 5 + j)) = some u := hc0
  obtain ⟨A2, c2, rfl, l2, g2⟩ := k36_open hK
  obtain ⟨b, off, spot⟩ := ad
  have hspot : spot = none := by
    obtain ⟨ad', c', e, _, hK', hc'⟩ := Kd.C_get h z36 0 (by omega) (by omega)
    injection e with e
    subst e
    obtain ⟨A3, c3, rfl, _, _⟩ := k36_open hK'
    have h0 := hc' 0 _ rfl
    simpa [Addr.add] using World.cell?_spot h0
  subst hspot
  simp only [Addr.add_lit, ← Nat.add_assoc] at hc
  exact ⟨b, off, A2, _, c2, rfl, rfl, l2, g2, hc 0 _ rfl, hc 1 _ rfl, hc 2 _ rfl, hc 3 _ rfl, hc 4 _ rfl⟩
set_option maxHeartbeats 3200000 in
set_option maxRecDepth 100000 in
theorem like_any (B g : Nat) (P Q : Nat → Prop) (ts : List Tk) (sizes : List Int) (us : List S36) (A : Option Addr) (n c M : Nat) (w : World) (hq : QL B P w g ts sizes) (hl : LV w B Q (.slice A n c) us) (hr : Rel us ts) (hI : Inv ts sizes) (hn : ts.length ≤ 60) (hpl : ∀ t ∈ us, t.f2.length ≤ 1000) (hM : M ≤ 6) :
    Calls Try.prog 24 #[.pointer (some ⟨g, 0, none⟩), .slice A n c, .int .i64 M] w fun e w' => TrueRes w w' e := by
  have hun : us.length ≤ 60 := by rw [hr.len]; exact hn
  have hnu := hl.len
  have hnt : n = ts.length := by rw [hnu, hr.len]
  have HQ := Lib.hid hq
  have HL := Lib.hid hl
  have HR := Lib.hid hr
  have HI := Lib.hid hI
  have HN := Lib.hid hn
  have HU := Lib.hid hun
  have HP := Lib.hid hpl
  have HT := Lib.hid hnt
  have hn60 : n ≤ 60 := by omega
  clear hq hl hr hI hn hpl hun hnu hnt
  go_enter Try.func24, Try.ntmps24
  go_wp2_with fail
  go_loopw [7] (fun i W => ∃ m : Int, -1 ≤ m ∧ m ≤ (M : Int) + 1 ∧ i = .int .i64 m ∧ Hid (Below w.heap.size w W)) (fun i _ => ((M : Int) + 1 - intOf i).toNat)
  case atStart => exact ⟨-1, by omega, by omega, rfl, Below.refl _ _⟩
  case round =>
    obtain ⟨m, hm1, hm2, rfl, HB⟩ := hrel
    by_cases hlt : m ≤ (M : Int)
    · go_wp2_with fail
      refine (mode_law B g P ts sizes m _ (HQ.out.below HB.out) (by have := HN.out; omega)).mono ?_
      rintro e w1 ⟨v9, ts9, rfl, hor9, hkeys9, hb1⟩
      obtain ⟨A9, c9, rfl⟩ := hor9.form
      have HO := Lib.hid hor9
      have HK := Lib.hid hkeys9
      have HB1 := Lib.hid (HB.out.trans (hb1.mono HB.out.size))
      have h9 : ts9.length = (modeR us m).length := by
        have e1 := congrArg List.length hkeys9
        have e2 := congrArg List.length (rel_mode HR.out HI.out m)
        simp only [List.length_map] at e1 e2
        rw [e1, e2]
      obtain ⟨n9, hn9⟩ : ∃ n9, n9 = ts9.length := ⟨_, rfl⟩
      rw [← hn9] at h9 HO ⊢
      have H9 := Lib.hid h9
      have HN9 := Lib.hid hn9
      clear hor9 hkeys9 hb1 h9 hn9
      go_wp2_with fail
      refine (l_mode (HL.out.below HB1.out) (by have := HU.out; omega) m).mono ?_
      rintro e w2 ⟨A8, c8, rfl, hC8, hb2⟩
      rw [← H9.out] at hC8 ⊢
      have HC8 := Lib.hid hC8
      have HB2 := Lib.hid (HB1.out.trans (hb2.mono HB1.out.size))
      have HO2 : Hid (ArgT w2 (.slice A9 n9 c9) ts9) := (HO.out.below hb2).arg
      clear hC8 hb2
      have hn9 : n9 ≤ 60 := by
        have e1 := congrArg List.length HK.out
        simp only [List.length_map] at e1
        have e2 := List.length_filter_le (fun t : Tk => t.mode == m) ts
        have := HN.out; have := HN9.out
        omega
      have hne0 : ((n9 : Int) != (n9 : Int)) = false := by simp
      go_wp2_with fail
      go_loopw [10] (fun i W => ∃ k : Nat, k ≤ n9 ∧ i = .int .i64 k ∧ Hid (Below w2.heap.size w2 W)) (fun i _ => n9 - (intOf i).toNat)
      case atStart => exact ⟨0, Nat.zero_le _, rfl, Below.refl _ _⟩
      case round =>
        obtain ⟨k, hk, rfl, HBk⟩ := hrel
        by_cases hlt9 : k < n9
        · obtain ⟨bA, oA, rfl, id, mode, PA, pnA, pcA, pl, rating, since, hpnA, hsA, hgA, a0, a1, a2, a3, a4⟩ := HO2.out.at HBk.out hlt9
          obtain ⟨bB, oB, PB, pnB, pcB, rfl, hpnB, hlB, hcB, b0, b1, b2, b3, b4⟩ := c36_at (Kd.C_below HC8.out HBk.out) hlt9
          have hkey := keys_at HK.out k
          have hm8 := congrArg (fun l => l[k]?) (rel_mode HR.out HI.out m)
          simp only [List.getElem?_map] at hm8
          have hlt8 : k < (modeR us m).length := by rw [← H9.out]; exact hlt9
          have hrd : rd_T36 (modeR us m) (k : Int) = (modeR us m)[k] := rdT_at _ _ hlt8
          have hmem : (modeR us m)[k] ∈ us := by
            have := (modeFrom_perm m us []).mem_iff.1 (List.getElem_mem hlt8)
            rw [List.nil_append] at this
            exact (List.mem_filter.1 this).1
          have hpl8 := HP.out _ hmem
          rw [hgA] at hkey
          rw [hrd] at hpnB hcB b0 b1 b3 b4
          rw [List.getElem?_eq_getElem hlt8] at hm8
          obtain ⟨tq, htq, hkq⟩ : ∃ tq, (ts.filter (fun t => t.mode == m))[k]? = some tq ∧ tq.key = skey (modeR us m)[k] := by
            cases h : (ts.filter (fun t => t.mode == m))[k]? with
            | none => rw [h] at hm8; simp at hm8
            | some tq => rw [h] at hm8; exact ⟨tq, rfl, by simpa using hm8.symm⟩
          rw [List.getD_eq_getElem?_getD, htq] at hkey
          generalize (modeR us m)[k] = u at hpl8 hpnB hcB b0 b1 b3 b4 hkq
          obtain ⟨u0, u1, u2, u3, u4⟩ := u
          have hkey2 : (id, mode, pl, rating, since) = (u0, u1, u2, u3, u4) := hkey.trans hkq
          simp only [Prod.mk.injEq] at hkey2
          obtain ⟨rfl, rfl, rfl, rfl, rfl⟩ := hkey2
          simp only at hpnB hcB b0 b1 b3 b4 hpl8
          have hcA := c_at hsA
          have HS : Hid (Calls Try.prog 20 #[.agg #[.int .u32 id, .int .i64 mode, .slice PA pnA pcA, .int .i64 rating, .int .i64 since], .agg #[.int .u32 id, .int .i64 mode, .slice PB pnB pcB, .int .i64 rating, .int .i64 since]] wr.drew fun e w' => e = .returned (.bool true) ∧ Below wr.drew.heap.size wr.drew w') :=
            l_same (W := wr.drew) id mode rating since hpl8 hcA.1 hpnB hcA.2.1 hlB (cint_below hcA.2.2 ((Below.refl _ _).drew)) (cint_below (hpnB ▸ hcB) ((Below.refl _ _).drew))
          have lA : bA < wr.heap.size := cell_lt a0
          have lB : bB < wr.heap.size := cell_lt b0
          clear hgA hsA hpnA hpnB hcB hcA hkey hkq htq hm8 hrd hmem hpl8 hlt8 hlB
          go_wp2_with fail
          go_region_held3 (fun w' => w'.cell? ⟨bA, oA + k * 5, none⟩ = some (.int .u32 id) ∧ w'.cell? ⟨bA, oA + k * 5 + 1, none⟩ = some (.int .i64 mode) ∧ w'.cell? ⟨bA, oA + k * 5 + 2, none⟩ = some (.slice PA pnA pcA) ∧ w'.cell? ⟨bA, oA + k * 5 + 3, none⟩ = some (.int .i64 rating) ∧ w'.cell? ⟨bA, oA + k * 5 + 4, none⟩ = some (.int .i64 since) ∧
              w'.cell? ⟨bB, oB + k * 5, none⟩ = some (.int .u32 id) ∧ w'.cell? ⟨bB, oB + k * 5 + 1, none⟩ = some (.int .i64 mode) ∧ w'.cell? ⟨bB, oB + k * 5 + 2, none⟩ = some (.slice PB pnB pcB) ∧ w'.cell? ⟨bB, oB + k * 5 + 3, none⟩ = some (.int .i64 rating) ∧ w'.cell? ⟨bB, oB + k * 5 + 4, none⟩ = some (.int .i64 since))
            (first | exact ⟨(hb3.cell (p := ⟨bA, oA + k * 5, none⟩) lA).trans a0, (hb3.cell (p := ⟨bA, oA + k * 5 + 1, none⟩) lA).trans a1, (hb3.cell (p := ⟨bA, oA + k * 5 + 2, none⟩) lA).trans a2, (hb3.cell (p := ⟨bA, oA + k * 5 + 3, none⟩) lA).trans a3, (hb3.cell (p := ⟨bA, oA + k * 5 + 4, none⟩) lA).trans a4, (hb3.cell (p := ⟨bB, oB + k * 5, none⟩) lB).trans b0, (hb3.cell (p := ⟨bB, oB + k * 5 + 1, none⟩) lB).trans b1, (hb3.cell (p := ⟨bB, oB + k * 5 + 2, none⟩) lB).trans b2, (hb3.cell (p := ⟨bB, oB + k * 5 + 3, none⟩) lB).trans b3, (hb3.cell (p := ⟨bB, oB + k * 5 + 4, none⟩) lB).trans b4⟩ | go_keep)
            (first | (go_at_call 20; refine HS.out.mono ?_; rintro e w3 ⟨rfl, hb3⟩))
          have HB3 := Lib.hid (HBk.out.trans (((Below.refl wr.heap.size wr).drew.trans hb3).mono HBk.out.size))
          clear a0 a1 a2 a3 a4 b0 b1 b2 b3 b4 hb3 HS
          go_wp2_with fail
          go_roundw
          case rel => exact ⟨k + 1, by omega, by go_num, HB3⟩
          case measure => simp [intOf]; omega
        · have hge9 : ¬ ((k : Int) < (n9 : Int)) := by omega
          have HB4 := Lib.hid (HB2.out.trans (HBk.out.mono HB2.out.size))
          go_wp2_with fail
          go_roundw
          case rel => exact ⟨m + 1, by omega, by omega, rfl, HB4⟩
          case measure => simp [intOf]; omega
    · have hge : ¬ (m ≤ (M : Int)) := hlt
      have hee : ((n : Int) == (n : Int)) = true := by simp
      go_wp2_with (first | (go_at_call 15; refine (len_law B g P ts sizes wr (HQ.out.below HB.out)).mono ?_; rintro e w9 ⟨rfl, rfl⟩; rw [← HT.out]))
      go_ret
      exact ⟨rfl, HB.out⟩
end Go.Proofs.Ytlkpmlcmgggifaa
namespace Go.Proofs.Ytlkpmlcmgggifaa
open Go.RowKit Go.Proofs.Ytlkpmlcmgggifaa.PQueueRuns
open Go.Proofs.YtlkpmlcmgggifaaW.PrintWords
/-- At g stands a queue as the document's tickets us. -/
def QU (B : Nat) (P : Nat → Prop) (W : World) (g : Nat) (us : List S36) (sizes : List Int) : Prop := ∃ ts, QL B P W g ts sizes ∧ Rel us ts ∧ Inv ts sizes
theorem QU.below {B : Nat} {P : Nat → Prop} {w w' : World} {g : Nat} {us : List S36} {sizes : List Int} (h : QU B P w g us sizes) (hb : Below w.heap.size w w') : QU B P w' g us sizes := by
  obtain ⟨ts, h1, h2, h3⟩ := h
  exact ⟨ts, h1.below hb, h2, h3⟩
theorem QL.more {B : Nat} {P : Nat → Prop} {w w' : World} {g : Nat} {ts : List Tk} {sizes : List Int} (h : QL B P w g ts sizes) (hb : Below w.heap.size w w') : QL B (more P w w') w' g ts sizes := by
  obtain ⟨va, vs, h, hp⟩ := h
  refine ⟨va, vs, h.below hb, ?_⟩
  rintro k (hk | hk) hf
  · exact hp k hk hf
  · have := h.foot hf
    omega
theorem QU.more {B : Nat} {P : Nat → Prop} {w w' : World} {g : Nat} {us : List S36} {sizes : List Int} (h : QU B P w g us sizes) (hb : Below w.heap.size w w') : QU B (more P w w') w' g us sizes := by
  obtain ⟨ts, h1, h2, h3⟩ := h
  exact ⟨ts, h1.more hb, h2, h3⟩
theorem more_lt {P : Nat → Prop} {w w' : World} (h : ∀ k, P k → k < w.heap.size) (hb : w.heap.size ≤ w'.heap.size) : ∀ k, more P w w' k → k < w'.heap.size := by
  rintro k (hk | hk)
  · exact Nat.lt_of_lt_of_le (h k hk) hb
  · exact hk.2
theorem LV.mono {W : World} {B : Nat} {P P' : Nat → Prop} {v : Value} {us : List S36} (h : LV W B P v us) (hp : ∀ k, P k → P' k) : LV W B P' v us := Kd.V_mono h (fun k hk => hk.imp id (hp k))
theorem LV.stay {W W' : World} {B : Nat} {P : Nat → Prop} {v : Value} {us : List S36} (h : LV W B P v us) (hb : Below B W W') (hs : StayP P W W') : LV W' B P v us :=
  Kd.V_step h (fun k hk hlt => hk.elim (fun h => hb.block k h) (fun h => hs.p k h hlt))
theorem QL.few {B : Nat} {P : Nat → Prop} {w : World} {g : Nat} {ts : List Tk} {sizes : List Int} (h : QL B P w g ts sizes) : ∀ t ∈ ts, t.pl.length ≤ 8 := by
  obtain ⟨va, vs, h, _⟩ := h
  exact h.few
theorem QU.few {B : Nat} {P : Nat → Prop} {w : World} {g : Nat} {us : List S36} {sizes : List Int} (h : QU B P w g us sizes) : ∀ t ∈ us, t.f2.length ≤ 8 := by
  obtain ⟨ts, h1, h2, h3⟩ := h
  intro u hu
  obtain ⟨t, ht, e⟩ := h2.to hu
  rw [← (key_open e).2.2.1]
  exact h1.few t ht
theorem getR_of {ts : List Tk} {us : List S36} {sizes : List Int} (hr : Rel us ts) (hI : Inv ts sizes) (x : Int) : (ts.find? (fun t => t.id == x) = none ∧ getR us x = (0, 0, [], 0, 0, false)) ∨ ∃ t, ts.find? (fun t => t.id == x) = some t ∧ getR us x = (t.id, t.mode, t.pl, t.rating, t.since, true) := by
  have := rel_get hr hI x
  cases h : ts.find? (fun t => t.id == x) with
  | none => rw [h] at this; exact .inl ⟨rfl, this⟩
  | some t => rw [h] at this; exact .inr ⟨t, rfl, this⟩
theorem qu_get {B g : Nat} {P : Nat → Prop} {us : List S36} {sizes : List Int} {W : World} (hq : QU B P W g us sizes) (x : Int) :
    Calls Try.prog 23 #[.pointer (some ⟨g, 0, none⟩), .int .u32 x] W fun e w' => GetL W w' (getR us x) e := by
  obtain ⟨ts, hq, hr, hI⟩ := hq
  refine (get_law B g P ts sizes x W hq).mono ?_
  intro e w' h
  rcases getR_of hr hI x with ⟨h1, h2⟩ | ⟨t, h1, h2⟩
  · rw [h1] at h
    obtain ⟨rfl, hb⟩ := h
    rw [h2]
    exact ⟨none, 0, rfl, Nat.le_refl _, Kd.C_of_reads (d := 0) ⟨rfl, by simp, fun h => by simp at h⟩, hb⟩
  · rw [h1] at h
    obtain ⟨pv, rfl, ho, hb⟩ := h
    rw [h2]
    obtain ⟨A2, c2, rfl, hl, hC⟩ := c_of_shows (.inl ho.shows)
    exact ⟨A2, c2, rfl, hl, hC, hb⟩
theorem qu_of {B g : Nat} {P : Nat → Prop} {us : List S36} {sizes : List Int} {W : World} (hq : QU B P W g us sizes) (p : Int) :
    Calls Try.prog 14 #[.pointer (some ⟨g, 0, none⟩), .int .u32 p] W fun e w' => e = .returned (.int .u32 (ofR us p)) ∧ Below W.heap.size W w' := by
  obtain ⟨ts, hq, hr, hI⟩ := hq
  rw [rel_of hr hI]
  exact of_law B g P ts sizes p W hq
def DropU (B : Nat) (P : Nat → Prop) (W w' : World) (g : Nat) (us : List S36) (sizes : List Int) (x : Int) (e : Ending) : Prop :=
  ∃ A2 c2, e = .returned (.tuple #[.agg #[.int .u32 (getR us x).1, .int .i64 (getR us x).2.1, .slice A2 (getR us x).2.2.1.length c2, .int .i64 (getR us x).2.2.2.1, .int .i64 (getR us x).2.2.2.2.1], .bool (getR us x).2.2.2.2.2]) ∧ (getR us x).2.2.1.length ≤ c2 ∧ (Kd.int .u32).C w' A2 (getR us x).2.2.1.length (getR us x).2.2.1 ∧
    Below B W w' ∧ StayP P W w' ∧ QU B P w' g (us.filter (fun t => t.f0 != x)) sizes
theorem qu_drop {B g : Nat} {P : Nat → Prop} {us : List S36} {sizes : List Int} {W : World} (hq : QU B P W g us sizes) (x : Int) :
    Calls Try.prog 18 #[.pointer (some ⟨g, 0, none⟩), .int .u32 x] W fun e w' => DropU B P W w' g us sizes x e := by
  obtain ⟨ts, hq, hr, hI⟩ := hq
  refine (drop_law B g P ts sizes x W hq).mono ?_
  rintro e w' (⟨h1, rfl, hb, hs, hq'⟩ | ⟨k, t, A, c, hk, ht, h1, rfl, hb, hs, hq', hf, ho, hj⟩)
  · rcases getR_of hr hI x with ⟨_, h2⟩ | ⟨t, h3, _⟩
    · unfold DropU
      rw [h2]
      exact ⟨none, 0, rfl, Nat.le_refl _, Kd.C_of_reads (d := 0) ⟨rfl, by simp, fun h => by simp at h⟩, hb, hs, ts, hq', by rw [rel_drop_none hr h1]; exact hr, hI⟩
    · rw [h1] at h3; cases h3
  · rcases getR_of hr hI x with ⟨h3, _⟩ | ⟨t', h3, h2⟩
    · rw [h1] at h3; cases h3
    · rw [h1] at h3
      obtain rfl := Option.some.inj h3
      have hid : t.id = x := by simpa using List.find?_some h1
      unfold DropU
      rw [h2]
      obtain ⟨e1, hl, hC⟩ := c_at (.inl ho.shows)
      exact ⟨A, c, rfl, hl, hC, hb, hs, ts.eraseIdx k, hq', by rw [← hid]; exact rel_drop hr hI hk ht, hI.erase k⟩
def PutU (B : Nat) (P : Nat → Prop) (W w' : World) (g : Nat) (us : List S36) (sizes : List Int) (u : S36) (e : Ending) : Prop :=
  e = .returned (.int .i64 (codeR us sizes u)) ∧ Below B W w' ∧ StayP P W w' ∧ QU B P w' g (putR us sizes u).1 sizes
theorem qu_put {B g : Nat} {P : Nat → Prop} {us : List S36} {sizes : List Int} {W : World} (hq : QU B P W g us sizes) (hm : us.length ≤ 1000) (hP : ∀ k, P k → k < W.heap.size) (id mode rating since : Int) (pv : Value) (pl : List Int) (hs : Shows W .u32 pv pl) (hf : pl.length ≤ 8) :
    Calls Try.prog 10 #[.pointer (some ⟨g, 0, none⟩), .agg #[.int .u32 id, .int .i64 mode, pv, .int .i64 rating, .int .i64 since]] W fun e w' => PutU B P W w' g us sizes ⟨id, mode, pl, rating, since⟩ e := by
  obtain ⟨ts, hq, hr, hI⟩ := hq
  have hc := rel_code hr hI ⟨id, mode, pl, rating, since⟩ ⟨id, mode, pv, pl, rating, since⟩ rfl
  refine (put_law B g P ts sizes id mode rating since pv pl W hq hP hs hf (by rw [← hr.len]; exact hm) hI.sorted).mono ?_
  rintro e w' ⟨rfl, hb, hst, ts', hq', h1, h2⟩
  refine ⟨by rw [hc], hb, hst, ts', hq', ?_, (put_inv hI h1 h2).1⟩
  unfold putR
  by_cases h0 : codeR us sizes ⟨id, mode, pl, rating, since⟩ = 0
  · rw [if_pos h0]
    obtain ⟨t', hk, rfl⟩ := h2 (by rw [← hc]; exact h0)
    exact rel_put hr hk
  · rw [if_neg h0, h1 (by rw [← hc]; exact h0)]
    exact hr
theorem qu_like {B g : Nat} {P Q : Nat → Prop} {us : List S36} {sizes : List Int} {W : World} {A : Option Addr} {n c M : Nat} (hq : QU B P W g us sizes) (hl : LV W B Q (.slice A n c) us) (hn : us.length ≤ 60) (hM : M ≤ 6) :
    Calls Try.prog 24 #[.pointer (some ⟨g, 0, none⟩), .slice A n c, .int .i64 M] W fun e w' => TrueRes W w' e := by
  have hf := hq.few
  obtain ⟨ts, hq, hr, hI⟩ := hq
  exact like_any B g P Q ts sizes us A n c M W hq hl hr hI (by rw [← hr.len]; exact hn) (fun t ht => by have := hf t ht; omega) hM
theorem putR_len (us : List S36) (sizes : List Int) (u : S36) : (putR us sizes u).1.length ≤ us.length + 1 := by
  unfold putR
  split <;> simp
theorem QU.new {B : Nat} {w : World} {g : Nat} {sizes : List Int} (h : QL B nop w g [] sizes) : QU B nop w g [] sizes := ⟨[], h, List.Perm.refl _, Inv.nil _⟩
end Go.Proofs.Ytlkpmlcmgggifaa
