/- The place of a ticket. -/
import Derived.Test.YtlkpmlcmgggifaaQh
set_option linter.unusedVariables false
set_option linter.unusedSimpArgs false
namespace Go.Proofs.Ytlkpmlcmgggifaa
open Go.RowKit
theorem mode_nil (m : Int) (w : World) : Calls Try.prog 12 #[.pointer none, .int .i64 m] w fun e w' => e = .returned (.slice none 0 0) ∧ w = w' := by
  go_enter Try.func12, Try.ntmps12
  go_wp2
  go_ret
  exact ⟨rfl, rfl⟩
/-- how a waiting ticket stands to another one -/
def ordT (a b : Tk) : Int := ordI a.id a.since b.id b.since
/-- What a search comes to: the first place where it is no more below. -/
def SearchRes (w w' : World) (n : Nat) (c : Nat → Int) (e : Ending) : Prop :=
  ∃ (k : Nat) (found : Bool), e = .returned (.tuple #[.int .i64 k, .bool found]) ∧ k ≤ n ∧ (∀ i, i < k → c i < 0) ∧ (∀ i, k ≤ i → i < n → 0 ≤ c i) ∧ (found = decide (k < n ∧ c k = 0)) ∧ Below w.heap.size w w'
set_option maxHeartbeats 3200000 in
set_option maxRecDepth 100000 in
theorem search_at (b n c : Nat) (ts : List Tk) (x : Tk) (w : World) (hn : n ≤ 1000) (ht : TRow w b 0 n ts) (hpl : ∀ t ∈ ts, ∃ A m c', t.pv = .slice A m c') (hx : ∃ A m c', x.pv = .slice A m c')
    (hmono : ∀ i j, i ≤ j → j < n → ordT (ts.getD j Tk.zero) x < 0 → ordT (ts.getD i Tk.zero) x < 0) :
    Calls Try.prog 53 #[.slice (some ⟨b, 0, none⟩) n c, .agg #[.int .u32 x.id, .int .i64 x.mode, x.pv, .int .i64 x.rating, .int .i64 x.since], .func (.func 54) #[] #[]] w
      fun e w' => SearchRes w w' n (fun i => ordT (ts.getD i Tk.zero) x) e := by
  obtain ⟨XA, Xm, Xc, hxp⟩ := hx
  rw [hxp]
  have HT := Lib.hid ht
  have HM := Lib.hid hmono
  have HP := Lib.hid hpl
  clear ht hmono hpl hxp
  go_enter Try.func53, Try.ntmps53
  go_wp2_with fail
  have B0 := Lib.hid ((Below.refl w.heap.size w).alloc (Nat.le_refl _) (.cells #[.int .u32 x.id, .int .i64 x.mode, .slice XA Xm Xc, .int .i64 x.rating, .int .i64 x.since] 39))
  have X0 : Hid (Blk (w.alloc (.cells #[.int .u32 x.id, .int .i64 x.mode, .slice XA Xm Xc, .int .i64 x.rating, .int .i64 x.since] 39)) w.heap.size #[.int .u32 x.id, .int .i64 x.mode, .slice XA Xm Xc, .int .i64 x.rating, .int .i64 x.since] 39) := heap_alloc_new w _
  go_loopw [9, 10] (fun si sj W => ∃ i j : Nat, i ≤ j ∧ j ≤ n ∧ si = .int .i64 i ∧ sj = .int .i64 j ∧ Hid (∀ l, l < i → ordT (ts.getD l Tk.zero) x < 0) ∧ Hid (∀ l, j ≤ l → l < n → 0 ≤ ordT (ts.getD l Tk.zero) x) ∧ Hid (Blk W w.heap.size #[.int .u32 x.id, .int .i64 x.mode, .slice XA Xm Xc, .int .i64 x.rating, .int .i64 x.since] 39) ∧ Hid (Below w.heap.size w W)) (fun si sj _ => (intOf sj).toNat - (intOf si).toNat)
  case atStart => exact ⟨0, n, Nat.zero_le _, Nat.le_refl _, rfl, rfl, fun l hl => absurd hl (by omega), fun l h1 h2 => absurd h1 (by omega), X0.out, B0.out⟩
  case round =>
    obtain ⟨i, j, hij, hjn, rfl, rfl, HI, HJ, HX, HB⟩ := hrel
    by_cases hlt : i < j
    · have hlt' : (i : Int) < (j : Int) := by omega
      go_wp2_with fail
      rw [show ((i : Int) + (j : Int)) / 2 = (((i + j) / 2 : Nat) : Int) from by omega]
      obtain ⟨h, hh⟩ : ∃ h, h = (i + j) / 2 := ⟨_, rfl⟩
      have h1 : i ≤ h := by omega
      have h2 : h < j := by omega
      rw [← hh]
      clear hh
      have hrw := HT.out.below HB.out
      have hbl := hrw.lt (by omega)
      have k0 := hrw.c0 h (by omega)
      have k1 := hrw.c1 h (by omega)
      have k2 := hrw.c2 h (by omega)
      have k3 := hrw.c3 h (by omega)
      have k4 := hrw.c4 h (by omega)
      simp only [Nat.zero_add] at k0 k1 k2 k3 k4
      have x0 := HX.out.cell 0
      have x1 := HX.out.cell 1
      have x2 := HX.out.cell 2
      have x3 := HX.out.cell 3
      have x4 := HX.out.cell 4
      simp only [List.getElem?_toArray, List.getElem?_cons_zero, List.getElem?_cons_succ] at x0 x1 x2 x3 x4
      obtain ⟨A, m, c', hpv⟩ := HP.out _ (getD_mem Tk.zero ts h (by have := HT.out.len; omega))
      rw [hpv] at k2
      have hxl := HX.out.lt
      have hhn : (h : Int) < (n : Int) := by omega
      obtain ⟨t, htd⟩ : ∃ t, t = ts.getD h Tk.zero := ⟨_, rfl⟩
      rw [← htd] at k0 k1 k3 k4
      have HTD := Lib.hid htd
      clear htd hpv hrw
      go_region_held3 (fun w' => w'.cell? ⟨b, h * 5, none⟩ = some (.int .u32 t.id) ∧ w'.cell? ⟨b, h * 5 + 1, none⟩ = some (.int .i64 t.mode) ∧ w'.cell? ⟨b, h * 5 + 2, none⟩ = some (.slice A m c') ∧ w'.cell? ⟨b, h * 5 + 3, none⟩ = some (.int .i64 t.rating) ∧ w'.cell? ⟨b, h * 5 + 4, none⟩ = some (.int .i64 t.since) ∧
          w'.cell? ⟨w.heap.size, 0, none⟩ = some (.int .u32 x.id) ∧ w'.cell? ⟨w.heap.size, 1, none⟩ = some (.int .i64 x.mode) ∧ w'.cell? ⟨w.heap.size, 2, none⟩ = some (.slice XA Xm Xc) ∧ w'.cell? ⟨w.heap.size, 3, none⟩ = some (.int .i64 x.rating) ∧ w'.cell? ⟨w.heap.size, 4, none⟩ = some (.int .i64 x.since))
        (first | go_keep | exact ⟨(hb'.cell (p := ⟨b, h * 5, none⟩) hbl).trans k0, (hb'.cell (p := ⟨b, h * 5 + 1, none⟩) hbl).trans k1, (hb'.cell (p := ⟨b, h * 5 + 2, none⟩) hbl).trans k2, (hb'.cell (p := ⟨b, h * 5 + 3, none⟩) hbl).trans k3, (hb'.cell (p := ⟨b, h * 5 + 4, none⟩) hbl).trans k4, (hb'.cell (p := ⟨w.heap.size, 0, none⟩) hxl).trans x0, (hb'.cell (p := ⟨w.heap.size, 1, none⟩) hxl).trans x1, (hb'.cell (p := ⟨w.heap.size, 2, none⟩) hxl).trans x2, (hb'.cell (p := ⟨w.heap.size, 3, none⟩) hxl).trans x3, (hb'.cell (p := ⟨w.heap.size, 4, none⟩) hxl).trans x4⟩)
        (first | (go_at_call 54; refine (order_any _ _ _ _ _ _ _ _ _ _ _ rfl rfl).mono ?_; rintro e w' ⟨rfl, hb'⟩))
      obtain ⟨r, hr⟩ : ∃ r, r = ordI t.id t.since x.id x.since := ⟨_, rfl⟩
      rw [← hr]
      have HR : Hid (ordT (ts.getD h Tk.zero) x = r) := by show _ = _; rw [← HTD.out, hr]; rfl
      have HB2 := Lib.hid (HB.out.drew.trans (hb'.mono HB.out.size))
      have HX2 := Lib.hid ((show Blk wr.drew _ _ _ from HX.out).below hb')
      clear hr k0 k1 k2 k3 k4 x0 x1 x2 x3 x4 hb' HX HB
      by_cases hneg : r < 0
      · have HI2 : Hid (∀ l, l < h + 1 → ordT (ts.getD l Tk.zero) x < 0) := fun l hl => HM.out l h (by omega) (by omega) (by rw [HR.out]; exact hneg)
        go_wp2
        go_roundw
        case rel => exact ⟨h + 1, j, by omega, hjn, by go_num, rfl, HI2, HJ, HX2, HB2⟩
        case measure => simp [intOf]; omega
      · have HJ2 : Hid (∀ l, h ≤ l → l < n → 0 ≤ ordT (ts.getD l Tk.zero) x) := fun l h3 h4 => by
          apply Int.not_lt.1
          intro hc
          exact hneg (by rw [← HR.out]; exact HM.out h l h3 h4 hc)
        go_wp2
        go_roundw
        case rel => exact ⟨i, h, h1, by omega, rfl, rfl, HI, HJ2, HX2, HB2⟩
        case measure => simp [intOf]; omega
    · have hij' : i = j := by omega
      subst hij'
      have hge : ¬ ((i : Int) < (i : Int)) := by omega
      by_cases hin : i < n
      · go_wp2_with fail
        have hrw := HT.out.below HB.out
        have hbl := hrw.lt (by omega)
        have k0 := hrw.c0 i (by omega)
        have k1 := hrw.c1 i (by omega)
        have k2 := hrw.c2 i (by omega)
        have k3 := hrw.c3 i (by omega)
        have k4 := hrw.c4 i (by omega)
        simp only [Nat.zero_add] at k0 k1 k2 k3 k4
        have x0 := HX.out.cell 0
        have x1 := HX.out.cell 1
        have x2 := HX.out.cell 2
        have x3 := HX.out.cell 3
        have x4 := HX.out.cell 4
        simp only [List.getElem?_toArray, List.getElem?_cons_zero, List.getElem?_cons_succ] at x0 x1 x2 x3 x4
        obtain ⟨A, m, c', hpv⟩ := HP.out _ (getD_mem Tk.zero ts i (by have := HT.out.len; omega))
        rw [hpv] at k2
        have hxl := HX.out.lt
        have hhn : (i : Int) < (n : Int) := by omega
        obtain ⟨t, htd⟩ : ∃ t, t = ts.getD i Tk.zero := ⟨_, rfl⟩
        rw [← htd] at k0 k1 k3 k4
        have HTD := Lib.hid htd
        clear htd hpv hrw
        go_region_held3 (fun w' => w'.cell? ⟨b, i * 5, none⟩ = some (.int .u32 t.id) ∧ w'.cell? ⟨b, i * 5 + 1, none⟩ = some (.int .i64 t.mode) ∧ w'.cell? ⟨b, i * 5 + 2, none⟩ = some (.slice A m c') ∧ w'.cell? ⟨b, i * 5 + 3, none⟩ = some (.int .i64 t.rating) ∧ w'.cell? ⟨b, i * 5 + 4, none⟩ = some (.int .i64 t.since) ∧ w'.cell? ⟨w.heap.size, 0, none⟩ = some (.int .u32 x.id) ∧ w'.cell? ⟨w.heap.size, 1, none⟩ = some (.int .i64 x.mode) ∧ w'.cell? ⟨w.heap.size, 2, none⟩ = some (.slice XA Xm Xc) ∧ w'.cell? ⟨w.heap.size, 3, none⟩ = some (.int .i64 x.rating) ∧ w'.cell? ⟨w.heap.size, 4, none⟩ = some (.int .i64 x.since))
          (first | go_keep | exact ⟨(hb'.cell (p := ⟨b, i * 5, none⟩) hbl).trans k0, (hb'.cell (p := ⟨b, i * 5 + 1, none⟩) hbl).trans k1, (hb'.cell (p := ⟨b, i * 5 + 2, none⟩) hbl).trans k2, (hb'.cell (p := ⟨b, i * 5 + 3, none⟩) hbl).trans k3, (hb'.cell (p := ⟨b, i * 5 + 4, none⟩) hbl).trans k4, (hb'.cell (p := ⟨w.heap.size, 0, none⟩) hxl).trans x0, (hb'.cell (p := ⟨w.heap.size, 1, none⟩) hxl).trans x1, (hb'.cell (p := ⟨w.heap.size, 2, none⟩) hxl).trans x2, (hb'.cell (p := ⟨w.heap.size, 3, none⟩) hxl).trans x3, (hb'.cell (p := ⟨w.heap.size, 4, none⟩) hxl).trans x4⟩)
          (first | (go_at_call 54; refine (order_any _ _ _ _ _ _ _ _ _ _ _ rfl rfl).mono ?_; rintro e w' ⟨rfl, hb'⟩))
        have HB2 := Lib.hid (HB.out.drew.trans (hb'.mono HB.out.size))
        obtain ⟨r, hr⟩ : ∃ r, r = ordI t.id t.since x.id x.since := ⟨_, rfl⟩
        rw [← hr]
        have HR : Hid (ordT (ts.getD i Tk.zero) x = r) := by show _ = _; rw [← HTD.out, hr]; rfl
        clear hr k0 k1 k2 k3 k4 x0 x1 x2 x3 x4 hb' HX HB
        go_wp2
        go_ret2
        exact ⟨i, _, rfl, hjn, HI.out, HJ.out, by show _ = decide (i < n ∧ ordT (ts.getD i Tk.zero) x = 0); rw [HR.out]; simp [hin]; rfl, HB2.out⟩
      · have hd : decide ((i : Int) < (n : Int)) = false := by simp; omega
        have hd2 : ¬ ((i : Int) < (n : Int)) := by omega
        go_wp2_with fail
        go_quiet (fail)
        go_wp2
        go_ret2
        exact ⟨i, false, rfl, hjn, HI.out, HJ.out, by simp [hin], below_drewN HB.out _⟩
/-- .. and at a queue's own row, nil too. -/
theorem search_any (base e0 : Nat) (va : Value) (ts : List Tk) (x : Tk) (w : World) (hn : ts.length ≤ 1000) (hr : w.ownsRow base e0 5 va ts.length (ts.flatMap Tk.cs)) (hpl : ∀ t ∈ ts, ∃ A m c', t.pv = .slice A m c') (hx : ∃ A m c', x.pv = .slice A m c')
    (hmono : ∀ i j, i ≤ j → j < ts.length → ordT (ts.getD j Tk.zero) x < 0 → ordT (ts.getD i Tk.zero) x < 0) :
    Calls Try.prog 53 #[va, .agg #[.int .u32 x.id, .int .i64 x.mode, x.pv, .int .i64 x.rating, .int .i64 x.since], .func (.func 54) #[] #[]] w
      fun e w' => SearchRes w w' ts.length (fun i => ordT (ts.getD i Tk.zero) x) e := by
  rcases own_trow hr with ⟨rfl, rfl⟩ | ⟨b, c, rfl, hm, hlt, ht⟩
  · obtain ⟨XA, Xm, Xc, hxp⟩ := hx
    rw [hxp]
    clear hxp hpl hmono hr hn
    go_enter Try.func53, Try.ntmps53
    go_wp2_with fail
    refine wp_loop_rounds 1 ?_; rw [rounds_succ]
    go_wp2_with fail
    go_quiet (fail)
    go_wp2
    go_ret2
    exact ⟨0, false, rfl, Nat.le_refl _, fun i hi => absurd hi (by omega), fun i _ hi => absurd hi (by simp), by simp, below_drewN ((Below.refl _ _).alloc (Nat.le_refl _) _) _⟩
  · exact search_at b _ c ts x w hn ht hpl hx hmono
end Go.Proofs.Ytlkpmlcmgggifaa
