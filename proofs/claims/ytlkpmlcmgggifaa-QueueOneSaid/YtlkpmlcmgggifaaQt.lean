/- QueueAgain's walk. -/
import Derived.Test.YtlkpmlcmgggifaaQs
set_option linter.unusedVariables false
set_option linter.unusedSimpArgs false
namespace Go.Proofs.Ytlkpmlcmgggifaa
open Go.RowKit
/-- v shows the document's tickets ts. -/
def ArgT (w : World) (v : Value) (ts : List Tk) : Prop :=
  (ts = [] ∧ ∃ A c, v = .slice A 0 c) ∨ ∃ b off c, v = .slice (some ⟨b, off, none⟩) ts.length c ∧ ts.length ≤ maxLen ∧ b < w.heap.size ∧ TRow w b off ts.length ts ∧ ∀ t ∈ ts, ShowsA w .u32 t.pv t.pl
theorem ArgT.form {w : World} {v : Value} {ts : List Tk} (h : ArgT w v ts) : ∃ A c, v = .slice A ts.length c := by
  rcases h with ⟨rfl, h⟩ | ⟨b, off, c, rfl, _⟩
  · exact h
  · exact ⟨_, c, rfl⟩
/-- one of them, in a later world -/
theorem ArgT.at {w w' : World} {A : Option Addr} {n c : Nat} {ts : List Tk} (h : ArgT w (.slice A n c) ts) (hb : Below w.heap.size w w') {k : Nat} (hk : k < n) :
    ∃ b off, A = some ⟨b, off, none⟩ ∧ ∃ id mode PA pn pc pl rating since, pn = pl.length ∧ ShowsA w' .u32 (.slice PA pn pc) pl ∧ ts.getD k Tk.zero = ⟨id, mode, .slice PA pn pc, pl, rating, since⟩ ∧
      w'.cell? ⟨b, off + k * 5, none⟩ = some (.int .u32 id) ∧ w'.cell? ⟨b, off + k * 5 + 1, none⟩ = some (.int .i64 mode) ∧ w'.cell? ⟨b, off + k * 5 + 2, none⟩ = some (.slice PA pn pc) ∧ w'.cell? ⟨b, off + k * 5 + 3, none⟩ = some (.int .i64 rating) ∧ w'.cell? ⟨b, off + k * 5 + 4, none⟩ = some (.int .i64 since) := by
  rcases h with ⟨_, A', c', e⟩ | ⟨b, off, c', e, hm, hlt, ht, hp⟩
  · simp only [Value.slice.injEq] at e
    omega
  · simp only [Value.slice.injEq] at e
    obtain ⟨rfl, rfl, rfl⟩ := e
    refine ⟨b, off, rfl, ?_⟩
    have htm : ts.getD k Tk.zero ∈ ts := getD_mem _ _ _ hk
    have hs := (hp _ htm).below hb
    have ht' := ht.below hb
    have h0 := ht'.c0 k hk
    have h1 := ht'.c1 k hk
    have h2 := ht'.c2 k hk
    have h3 := ht'.c3 k hk
    have h4 := ht'.c4 k hk
    revert hs h0 h1 h2 h3 h4
    generalize ts.getD k Tk.zero = t
    obtain ⟨id, mode, pv, pl, rating, since⟩ := t
    intro hs h0 h1 h2 h3 h4
    obtain ⟨PA, pc, e⟩ := hs.form
    simp only at e
    subst e
    exact ⟨id, mode, PA, pl.length, pc, pl, rating, since, rfl, hs, rfl, h0, h1, h2, h3, h4⟩
theorem sizes24 : ([⟨2, 0, 0, 0, 0⟩, ⟨4, 0, 0, 0, 0⟩] : List Md).map Md.k = [2, 4] := rfl
theorem tk_eta (t : Tk) : t = ⟨t.id, t.mode, t.pv, t.pl, t.rating, t.since⟩ := rfl
theorem put_inv {ts ts' : List Tk} {sizes : List Int} {t : Tk} (hI : Inv ts sizes) (h1 : putCode ts sizes t ≠ 0 → ts' = ts) (h2 : putCode ts sizes t = 0 → ∃ t', t'.key = t.key ∧ ts' = insT t' ts) : Inv ts' sizes ∧ ts'.length ≤ ts.length + 1 := by
  by_cases hc : putCode ts sizes t = 0
  · obtain ⟨t', hk, rfl⟩ := h2 hc
    exact ⟨hI.ins hc hk, by rw [insT_len]; exact Nat.le_refl _⟩
  · rw [h1 hc]; exact ⟨hI, by omega⟩
theorem find_erased {ts : List Tk} {sizes : List Int} (hI : Inv ts sizes) {k : Nat} (hk : k < ts.length) {t : Tk} (ht : t = ts.getD k Tk.zero) {x : Int} (hx : ts.find? (fun y => y.id == x) = some t) : (ts.eraseIdx k).find? (fun y => y.id == x) = none := by
  obtain ⟨e1, e2⟩ := split_at hk
  have hid : t.id = x := by simpa using List.find?_some hx
  have hi := hI.ids
  rw [e1, ← ht] at hi
  obtain ⟨i1, i2, i3⟩ := List.pairwise_append.1 hi
  obtain ⟨i4, _⟩ := List.pairwise_cons.1 i2
  rw [e2, List.find?_eq_none]
  intro y hy
  rcases List.mem_append.1 hy with hy | hy
  · have := i3 y hy t (by simp)
    simpa [← hid] using this
  · have := i4 y hy
    simpa [← hid] using fun e => this e.symm
theorem ORow.mono {w : World} {base base' : Nat} {v : Value} {ts : List Tk} (h : ORow w base v ts) (hb : base' ≤ base) : ORow w base' v ts := ⟨own_mono h.row hb, fun t ht => own_mono (h.pls t ht) hb⟩
theorem ORow.form {w : World} {base : Nat} {v : Value} {ts : List Tk} (h : ORow w base v ts) : ∃ A c, v = .slice A ts.length c := by
  rcases own_trow h.row with ⟨rfl, rfl⟩ | ⟨b, c, rfl, _⟩
  · exact ⟨none, 0, rfl⟩
  · exact ⟨_, c, rfl⟩
theorem cell_lt {w : World} {b o : Nat} {v : Value} (h : w.cell? ⟨b, o, none⟩ = some v) : b < w.heap.size := by
  rcases Nat.lt_or_ge b w.heap.size with h1 | h1
  · exact h1
  · rw [World.cell?, Array.getElem?_eq_none h1] at h
    cases h
theorem ORow.arg {w : World} {base : Nat} {v : Value} {ts : List Tk} (h : ORow w base v ts) : ArgT w v ts := by
  rcases own_trow h.row with ⟨rfl, rfl⟩ | ⟨b, c, rfl, hm, hlt, ht⟩
  · exact .inl ⟨rfl, _, _, rfl⟩
  · exact .inr ⟨b, 0, c, rfl, hm, hlt, ht, fun t ht => .inl (h.pls t ht).shows⟩
theorem keys_at {ts us : List Tk} (h : ts.map Tk.key = us.map Tk.key) (k : Nat) : (ts.getD k Tk.zero).key = (us.getD k Tk.zero).key := by
  have := congrArg (fun l => l[k]?) h
  simp only [List.getElem?_map] at this
  simp only [List.getD_eq_getElem?_getD]
  cases h1 : ts[k]? <;> cases h2 : us[k]? <;> simp_all
theorem find_keys {ts us : List Tk} (h : us.map Tk.key = ts.map Tk.key) {x : Int} {t : Tk} (ht : ts.find? (fun y => y.id == x) = some t) : ∃ t', us.find? (fun y => y.id == x) = some t' ∧ t'.key = t.key := by
  induction ts generalizing us with
  | nil => simp at ht
  | cons y r ih =>
    cases us with
    | nil => simp at h
    | cons z us =>
      simp only [List.map_cons, List.cons.injEq] at h
      have hid : z.id = y.id := by simpa [Tk.key] using congrArg (·.1) h.1
      by_cases hy : y.id == x
      · rw [List.find?_cons_of_pos (by simpa using hy)] at ht
        obtain rfl := Option.some.inj ht
        exact ⟨z, List.find?_cons_of_pos (by simpa [hid] using hy), h.1⟩
      · rw [List.find?_cons_of_neg (by simpa using hy)] at ht
        obtain ⟨t', h1, h2⟩ := ih h.2 ht
        exact ⟨t', by rw [List.find?_cons_of_neg (by simpa [hid] using hy)]; exact h1, h2⟩
/-- What stands while the players that were told are written over. -/
structure AgainSt (w W : World) (g b7 b10 : Nat) (P : Nat → Prop) (ts : List Tk) (T X : Array Value) (A5 : Option Addr) (n5 : Nat) (v8 : Value) (pl : List Int) : Prop where
  t : Blk W b7 T 39
  x : Blk W b10 X 39
  q : QL w.heap.size P W g ts [2, 4]
  o : OwnN W w.heap.size 33 .u32 v8 pl
  b : Below w.heap.size w W
  r : ∀ b5, A5 = some ⟨b5, 0, none⟩ → ∃ cur : List Value, Blk W b5 cur.toArray 33 ∧ n5 ≤ cur.length
theorem AgainSt.set {w W : World} {g b7 b10 : Nat} {P : Nat → Prop} {ts : List Tk} {T X : Array Value} {n5 b5 : Nat} {v8 : Value} {pl : List Int} (h : AgainSt w W g b7 b10 P ts T X (some ⟨b5, 0, none⟩) n5 v8 pl) (hP : P b5) (hw : w.heap.size ≤ b5) (h8 : ∀ j, v8.ownBlock = some j → j ≠ b5) (j : Nat) (u : Value) : AgainSt w (W.setCell ⟨b5, j, none⟩ u) g b7 b10 P ts T X (some ⟨b5, 0, none⟩) n5 v8 pl := by
  obtain ⟨cur, hc, hl⟩ := h.r b5 rfl
  have hk : Kept W (W.setCell ⟨b5, j, none⟩ u) (fun i => i = b5) := Kept.setCell (S := fun i => i = b5) (Kept.refl _ _) (fun _ => rfl) u
  refine ⟨h.t.kept hk (h.t.ne hc (by decide)), h.x.kept hk (h.x.ne hc (by decide)), h.q.setCell hP u, own_kept h.o hk h8, h.b.setCell hw u, ?_⟩
  intro b he
  have : b5 = b := by injection he with he; injection he
  subst this
  exact ⟨_, blk_setCell hc j u, by simpa using hl⟩
def TrueRes (w w' : World) (e : Ending) : Prop := e = .returned (.bool true) ∧ Below w.heap.size w w'
set_option maxHeartbeats 16000000 in
set_option maxRecDepth 100000 in
theorem again_any (v : Value) (us : List Tk) (x : Int) (w : World) (ha : ArgT w v us) : Calls Try.prog 5 #[v, .int .u32 x] w fun e w' => TrueRes w w' e := by
  obtain ⟨A, c, rfl⟩ := ha.form
  obtain ⟨n, hn⟩ : ∃ n, n = us.length := ⟨_, rfl⟩
  rw [← hn] at ha ⊢
  have HA := Lib.hid ha
  clear ha hn
  by_cases h30 : 30 < n
  · have h30' : (30 : Int) < (n : Int) := by omega
    go_enter Try.func5, Try.ntmps5
    go_wp2
    go_ret
    exact ⟨rfl, Below.refl _ _⟩
  · have h30' : ¬ ((30 : Int) < (n : Int)) := by omega
    go_enter Try.func5, Try.ntmps5
    go_wp2_with fail
    refine (usual_any _ w.heap.size 2 [⟨2, 0, 0, 0, 0⟩, ⟨4, 0, 0, 0, 0⟩] (heap_alloc_new w _) (by decide)).mono ?_
    rintro e w1 ⟨v', rfl, hsm, hb1⟩
    have HB1 : Hid (Below w.heap.size w w1) := ((Below.refl _ _).alloc (Nat.le_refl _) _).trans (hb1.mono (by simp))
    have HSM := Lib.hid hsm
    clear hb1 hsm
    go_wp2_with fail
    refine (usual_new w1 v' _ HSM.out (by decide)).mono ?_
    rintro e w2 ⟨g, rfl, hq, hb2⟩
    have HQ2 : Hid (QL w.heap.size nop w2 g [] [2, 4]) := hq.mono HB1.out.size
    have HB2 : Hid (Below w.heap.size w w2) := HB1.out.trans (hb2.mono HB1.out.size)
    clear hq hb2 HB1 HSM
    go_wp2_with fail
    go_loopw [6] (fun i W => ∃ (k : Nat) (ts : List Tk), k ≤ n ∧ i = .int .i64 k ∧ ts.length ≤ k ∧ Hid (QL w.heap.size nop W g ts [2, 4]) ∧ Hid (Inv ts [2, 4]) ∧ Hid (Below w.heap.size w W)) (fun i _ => n - (intOf i).toNat)
    case atStart => exact ⟨0, [], Nat.zero_le _, rfl, Nat.le_refl _, HQ2, Inv.nil _, HB2⟩
    case round =>
      obtain ⟨k, ts, hk, rfl, hlen, HQ, HI, HB⟩ := hrel
      by_cases hlt : k < n
      · obtain ⟨b, off, rfl, id, mode, PA, pn, pc, pl, rating, since, hpn, hs, _, k0, k1, k2, k3, k4⟩ := HA.out.at HB.out hlt
        have HS := Lib.hid hs
        have HPN := Lib.hid hpn
        clear hs hpn
        by_cases h8 : 8 < pn
        · have h8' : (8 : Int) < (pn : Int) := by omega
          go_wp2_with fail
          go_ret
          exact ⟨rfl, HB.out⟩
        · have h8' : ¬ ((8 : Int) < (pn : Int)) := by omega
          have HF : Hid (pl.length ≤ 8) := by show _ ≤ _; rw [← HPN.out]; omega
          go_wp2_with (first
            | (go_at_call 11; refine (lawOwn id mode rating since _ pl _ HS.out HF.out).mono ?_; rintro e w3 ⟨pv3, rfl, hown, hb3⟩; obtain ⟨A3, c3, rfl, _⟩ := hown.shows.form; have HOWN := Lib.hid hown; have HB3 := Lib.hid (HB.out.trans (hb3.mono HB.out.size)); have HQ3 := Lib.hid (HQ.out.below hb3); clear hown hb3)
            | (go_at_call 10; refine (put_law w.heap.size g nop ts [2, 4] id mode rating since _ pl w3 HQ3.out (fun _ c => c.elim) HOWN.out.shows HF.out (by omega) HI.out.sorted).mono ?_; rintro e w4 ⟨rfl, hb4, _, ts4, hq4, h4, h5⟩))
          have hpi := put_inv HI.out h4 h5
          have hlen4 := hpi.2
          have HI4 := Lib.hid hpi.1
          have HQ4 := Lib.hid hq4
          have HB4 := Lib.hid (HB3.out.trans hb4)
          clear hpi h4 h5 hq4 hb4 k0 k1 k2 k3 k4 HS HPN HQ3 HB3 HOWN HF
          go_roundw
          case rel => exact ⟨k + 1, ts4, by omega, by go_num, by omega, HQ4, HI4, HB4⟩
          case measure => simp [intOf]; omega
      · have hge : ¬ ((k : Int) < (n : Int)) := by omega
        have hlen30 : ts.length ≤ 30 := by omega
        go_wp2_with fail
        refine (get_law w.heap.size g nop ts [2, 4] x wr HQ.out).mono ?_
        intro e w5 hgot
        cases ho : ts.find? (fun t => t.id == x) with
        | none =>
          rw [ho] at hgot
          obtain ⟨rfl, hb5⟩ := hgot
          have HB5 := Lib.hid (HB.out.trans (hb5.mono HB.out.size))
          clear hb5 ho
          go_wp2_with (go_at_call 16; refine (awake_any _).mono ?_; rintro e w6 ⟨rfl, hb6⟩)
          go_ret
          exact ⟨rfl, (HB5.out.alloc HB5.out.size _).trans (hb6.mono (by have := HB5.out.size; simp; omega))⟩
        | some t =>
          rw [ho] at hgot
          obtain ⟨pv5, rfl, hown5, hb5⟩ := hgot
          obtain ⟨A5, c5, rfl, _⟩ := hown5.shows.form
          obtain ⟨s0, hs0⟩ : ∃ s0, s0 = wr.heap.size := ⟨_, rfl⟩
          rw [← hs0] at hown5
          have HO := Lib.hid ho
          have HOW5 := Lib.hid hown5
          have HB5 := Lib.hid (HB.out.trans (hb5.mono HB.out.size))
          have HQ5 : Hid (QL w.heap.size (fun k => s0 ≤ k) w5 g ts [2, 4]) := by
            have h := HQ.out.fresh
            rw [← hs0] at h
            exact h.below hb5
          have HS0 : Hid (w.heap.size ≤ s0 ∧ s0 ≤ w5.heap.size) := ⟨by rw [hs0]; exact HB.out.size, by rw [hs0]; exact hb5.size⟩
          clear hown5 hb5 ho hs0 HQ HB
          go_wp2_with fail
          refine (mode_law w.heap.size g _ ts [2, 4] t.mode _ (HQ5.out.below ((Below.refl _ _).alloc (Nat.le_refl _) _)) (by omega)).mono ?_
          rintro e w7 ⟨v7, ts7, rfl, hor7, hkeys7, hb7⟩
          obtain ⟨A7, c7, rfl⟩ := hor7.form
          obtain ⟨b7, hb7e⟩ : ∃ b7, b7 = w5.heap.size := ⟨_, rfl⟩
          have HB7 : Hid (Below w.heap.size w w7) := (HB5.out.alloc HB5.out.size _).trans (hb7.mono (by have := HB5.out.size; simp; omega))
          have HT7 : Hid (Blk w7 b7 #[.int .u32 t.id, .int .i64 t.mode, .slice A5 t.pl.length c5, .int .i64 t.rating, .int .i64 t.since] 39) := by rw [hb7e]; exact Blk.below (heap_alloc_new w5 _) hb7
          have HQ7 : Hid (QL w.heap.size (fun k => s0 ≤ k) w7 g ts [2, 4]) := (HQ5.out.below ((Below.refl _ _).alloc (Nat.le_refl _) _)).below hb7
          have HOW7 : Hid (OwnN w7 s0 33 .u32 (.slice A5 t.pl.length c5) t.pl) := own_below (own_below HOW5.out ((Below.refl _ _).alloc (Nat.le_refl _) _)) hb7
          have HR7 : Hid (ORow w7 s0 (.slice A7 ts7.length c7) ts7) := hor7.mono (by have := HS0.out; simp; omega)
          have HSZ7 : Hid (s0 ≤ b7 ∧ b7 < w7.heap.size) := ⟨by rw [hb7e]; exact HS0.out.2, HT7.out.lt⟩
          have HK7 := Lib.hid hkeys7
          rw [← hb7e]
          clear hor7 hkeys7 hb7 HOW5 HQ5 HB5 hb7e
          go_wp2_with fail
          refine (drop_law w.heap.size g _ ts [2, 4] x w7 HQ7.out).mono ?_
          rintro e w8 (⟨hno, _⟩ | ⟨kd, td, A8, c8, hkd, htd, hfd, rfl, hb8, hst8, hq8, hf8, hown8, hlt8⟩)
          · have := hno.symm.trans HO.out
            cases this
          obtain rfl : td = t := Option.some.inj (hfd.symm.trans HO.out)
          have HB8 : Hid (Below w.heap.size w w8) := HB7.out.trans hb8
          have HT8 := Lib.hid (hst8.blk HT7.out HSZ7.out.1)
          have HQ8 := Lib.hid hq8
          have HOW8 := Lib.hid (hst8.own HOW7.out (fun k h _ => h))
          have HR8 := Lib.hid (hst8.row HR7.out (fun k h _ => h))
          have HX8 := Lib.hid hown8
          have HLT8 : Hid (∀ j, (Value.slice A8 td.pl.length c8).ownBlock = some j → j < s0) := fun j hj => by have := (hlt8 j hj).2; omega
          have HKD := Lib.hid hkd
          have HTD := Lib.hid htd
          have HF8 := Lib.hid hf8
          have HSZ8 : Hid (b7 < w8.heap.size) := Nat.lt_of_lt_of_le HSZ7.out.2 hst8.size
          clear hb8 hst8 hq8 hown8 hlt8 hkd htd hfd hf8 HB7 HT7 HQ7 HOW7 HR7
          go_wp2_with fail
          refine (get_law w.heap.size g _ (ts.eraseIdx kd) [2, 4] x _ (HQ8.out.below ((Below.refl _ _).alloc (Nat.le_refl _) _))).mono ?_
          intro e w9 hgot9
          rw [find_erased HI.out HKD.out HTD.out HO.out] at hgot9
          obtain ⟨rfl, hb9⟩ := hgot9
          obtain ⟨b10, hb10e⟩ : ∃ b10, b10 = w8.heap.size := ⟨_, rfl⟩
          have hba : Below w8.heap.size w8 (w8.alloc (.cells #[.int .u32 td.id, .int .i64 td.mode, .slice A8 td.pl.length c8, .int .i64 td.rating, .int .i64 td.since] 39)) := (Below.refl _ _).alloc (Nat.le_refl _) _
          have hb9' : Below w8.heap.size w8 w9 := hba.trans (hb9.mono (by simp))
          have HB9 : Hid (Below w.heap.size w w9) := HB8.out.trans (hb9'.mono HB8.out.size)
          have HT9 := Lib.hid (HT8.out.below hb9')
          have HQ9 := Lib.hid (HQ8.out.below hb9')
          have HOW9 := Lib.hid (own_below HOW8.out hb9')
          have HR9 := Lib.hid (HR8.out.below hb9')
          have HX9 : Hid (OwnN w9 w.heap.size 33 .u32 (.slice A8 td.pl.length c8) td.pl) := own_below HX8.out hb9'
          have HY9 : Hid (Blk w9 b10 #[.int .u32 td.id, .int .i64 td.mode, .slice A8 td.pl.length c8, .int .i64 td.rating, .int .i64 td.since] 39) := by rw [hb10e]; exact Blk.below (heap_alloc_new w8 _) hb9
          have HSZ9 : Hid (b7 < w9.heap.size ∧ s0 ≤ b10 ∧ b10 < w9.heap.size ∧ b7 < b10) := by
            have h1 := HSZ8.out; have h2 := hb9'.size; have h3 := HSZ7.out; have h4 := HY9.out.lt
            exact ⟨by omega, by omega, h4, by omega⟩
          rw [← hb10e]
          clear hba hb9 hb9' hb10e HB8 HT8 HQ8 HOW8 HR8 HX8 HSZ8
          obtain ⟨c10, f10⟩ := blk_rule HY9.out
          have l10 := HY9.out.lt
          go_wp2_with fail
          have code0 : putCode (ts.eraseIdx kd) [2, 4] ⟨td.id, td.mode, .slice A8 td.pl.length c8, td.pl, td.rating, td.since⟩ = 0 := put_again HI.out HKD.out (by rw [← HTD.out]; rfl)
          refine (put_law w.heap.size g (fun k => s0 ≤ k ∧ k < w9.heap.size + 1) (ts.eraseIdx kd) [2, 4] td.id td.mode td.rating td.since _ td.pl _ ((HQ9.out.below ((Below.refl _ _).alloc (Nat.le_refl _) _)).narrow (fun k h => h.1)) (fun k h => by simpa using h.2) (Shows.below (OwnN.shows HX9.out) ((Below.refl _ _).alloc (Nat.le_refl _) _)) HF8.out
            (by have := List.length_eraseIdx_le ts kd; omega) (HI.out.erase kd).sorted).mono ?_
          rintro e w10 ⟨rfl, hb10, hst10, ts10, hq10, _, h10⟩
          obtain ⟨t10, hk10, hts10⟩ := h10 code0
          rw [code0]
          have HK10 : Hid (ts10.map Tk.key = ts.map Tk.key) := by rw [hts10]; exact ins_again HI.out HKD.out (by rw [hk10, ← HTD.out]; rfl)
          have HI10 : Hid (Inv ts10 [2, 4]) := by rw [hts10]; exact (HI.out.erase kd).ins code0 hk10
          have hlen10 : ts10.length ≤ 1000 := by have := congrArg List.length HK10.out; simp at this; omega
          have HB10 : Hid (Below w.heap.size w w10) := (HB9.out.alloc HB9.out.size _).trans hb10
          have hal : Below w9.heap.size w9 (w9.alloc (.cells #[.int .u32 0, .int .i64 0, .slice none 0 0, .int .i64 0, .int .i64 0] 39)) := (Below.refl _ _).alloc (Nat.le_refl _) _
          have hsa : (w9.alloc (.cells #[.int .u32 0, .int .i64 0, .slice none 0 0, .int .i64 0, .int .i64 0] 39)).heap.size = w9.heap.size + 1 := by simp
          have HT10 := Lib.hid (hst10.blk (HT9.out.below hal) (by have := HSZ9.out; have := HSZ7.out; omega))
          have HY10 := Lib.hid (hst10.blk (HY9.out.below hal) (by have := HSZ9.out; omega))
          have HOW10 := Lib.hid (hst10.own (own_below HOW9.out hal) (fun k h h2 => ⟨h, by omega⟩))
          have HR10 := Lib.hid (hst10.row (HR9.out.below hal) (fun k h h2 => ⟨h, by omega⟩))
          have HP5 : Hid (∀ j, (Value.slice A5 td.pl.length c5).ownBlock = some j → s0 ≤ j ∧ j < w9.heap.size + 1) := fun j hj => ⟨by obtain ⟨_, _, h⟩ := own_blk HOW9.out hj; exact h, by have := own_lt HOW9.out hj; omega⟩
          have HX10 : Hid (OwnN w10 w.heap.size 33 .u32 (.slice A8 td.pl.length c8) td.pl) := hst10.ids (own_below HX9.out hal)
          have HQ10 := Lib.hid hq10
          have HSZ10 : Hid (w9.heap.size + 1 ≤ w10.heap.size) := by have := hst10.size; show _ ≤ _; omega
          clear hb10 hst10 hq10 h10 hts10 hk10 hal hsa code0 HB9 HT9 HY9 HOW9 HR9 HX9 HQ9 c10 f10 l10
          obtain ⟨c7, f7⟩ := blk_rule HT10.out
          have l7 := HT10.out.lt
          go_wp2_with fail
          refine (mode_law w.heap.size g _ ts10 [2, 4] td.mode w10 HQ10.out hlen10).mono ?_
          rintro e w11 ⟨v11, ts11, rfl, hor11, hkeys11, hb11⟩
          obtain ⟨A11, c11, rfl⟩ := hor11.form
          have HKK : Hid (ts11.map Tk.key = ts7.map Tk.key) := (hkeys11.trans (filter_keys _ _ _ HK10.out)).trans HK7.out.symm
          have HR11 : Hid (ORow w11 w10.heap.size (.slice A11 ts11.length c11) ts11) := hor11
          have HB11 := Lib.hid (HB10.out.trans (hb11.mono HB10.out.size))
          have HT11 := Lib.hid (HT10.out.below hb11)
          have HY11 := Lib.hid (HY10.out.below hb11)
          have HOW11 : Hid (OwnN w11 s0 33 .u32 (.slice A5 td.pl.length c5) td.pl) := own_below HOW10.out hb11
          have HS11 := Lib.hid (HR10.out.below hb11)
          have HX11 : Hid (OwnN w11 w.heap.size 33 .u32 (.slice A8 td.pl.length c8) td.pl) := own_below HX10.out hb11
          have HQ11 := Lib.hid (HQ10.out.below hb11)
          obtain ⟨n7, hn7⟩ : ∃ n7, n7 = ts7.length := ⟨_, rfl⟩
          have hn11 : ts11.length = n7 := by have := congrArg List.length HKK.out; simp at this; omega
          rw [hn11] at HR11 ⊢
          rw [← hn7] at HS11 ⊢
          have HN7 := Lib.hid hn7
          have HN11 := Lib.hid hn11
          have hm7 : n7 ≤ 1000 := by
            have h := congrArg List.length HK7.out
            have h2 := List.length_filter_le (fun t : Tk => t.mode == td.mode) ts
            simp only [List.length_map] at h
            omega
          clear hor11 hkeys11 hb11 hn7 hn11 HB10 HT10 HY10 HOW10 HR10 HX10 HQ10 c7 f7 l7
          have hnot : ∀ (x : Bool) (w : World), (Op.unary .not (.bool x)).run Try.prog w = .ok (.bool (!x)) w := fun _ _ => rfl
          have hnn : ((n7 : Int) != (n7 : Int)) = false := by simp
          go_wp2_with fail
          go_loopw [16] (fun i W => ∃ k : Nat, k ≤ n7 ∧ i = .int .i64 k ∧ Hid (Below w11.heap.size w11 W)) (fun i _ => n7 - (intOf i).toNat)
          case atStart => exact ⟨0, Nat.zero_le _, rfl, Below.refl _ _⟩
          case round =>
            obtain ⟨k, hk, rfl, HBW⟩ := hrel
            by_cases hlt : k < n7
            · obtain ⟨bA, oA, rfl, idA, mA, PA, pnA, pcA, plA, rA, sA, hpnA, hsA, hgA, a0, _, a2, _, _⟩ := HS11.out.arg.at HBW.out hlt
              obtain ⟨bB, oB, rfl, idB, mB, PB, pnB, pcB, plB, rB, sB, hpnB, hsB, hgB, b0, _, b2, _, _⟩ := HR11.out.arg.at HBW.out hlt
              have hkey := keys_at HKK.out k
              rw [hgA, hgB] at hkey
              simp only [Tk.key, Prod.mk.injEq] at hkey
              obtain ⟨rfl, rfl, rfl, rfl, rfl⟩ := hkey
              have HC : Hid (Calls Try.prog 26 #[.slice PA pnA pcA, .slice PB pnB pcB] wr.drew fun e w' => e = .returned (.bool true) ∧ Below wr.drew.heap.size wr.drew w') :=
                (same07 _ _ plB plB wr.drew (hsA.below ((Below.refl _ _).drew)) (hsB.below ((Below.refl _ _).drew))).mono (fun e w' h => ⟨by rw [h.1]; simp, h.2⟩)
              have lA : bA < wr.heap.size := cell_lt a0
              have lB : bB < wr.heap.size := cell_lt b0
              have hne : (idB != idB) = false := by simp
              clear hgA hgB hsA hsB hpnA hpnB
              go_wp2_with fail
              go_region_held3 (fun w' => w'.cell? ⟨bA, oA + k * 5, none⟩ = some (.int .u32 idB) ∧ w'.cell? ⟨bA, oA + k * 5 + 2, none⟩ = some (.slice PA pnA pcA) ∧ w'.cell? ⟨bB, oB + k * 5, none⟩ = some (.int .u32 idB) ∧ w'.cell? ⟨bB, oB + k * 5 + 2, none⟩ = some (.slice PB pnB pcB))
                (first | go_keep | exact ⟨(hb12.cell (p := ⟨bA, oA + k * 5, none⟩) lA).trans a0, (hb12.cell (p := ⟨bA, oA + k * 5 + 2, none⟩) lA).trans a2, (hb12.cell (p := ⟨bB, oB + k * 5, none⟩) lB).trans b0, (hb12.cell (p := ⟨bB, oB + k * 5 + 2, none⟩) lB).trans b2⟩)
                (first | (go_at_call 26; refine HC.out.mono ?_; rintro e w12 ⟨rfl, hb12⟩))
              go_wp2_with fail
              go_roundw
              case rel => exact ⟨k + 1, by omega, by go_num, HBW.out.drew.trans (hb12.mono HBW.out.size)⟩
              case measure => simp [intOf]; omega
            · have hge : ¬ ((k : Int) < (n7 : Int)) := by omega
              have HST : Hid (AgainSt w wr g b7 b10 (fun k => s0 ≤ k ∧ k < w9.heap.size + 1) ts10 #[.int .u32 td.id, .int .i64 td.mode, .slice A5 td.pl.length c5, .int .i64 td.rating, .int .i64 td.since] #[.int .u32 td.id, .int .i64 td.mode, .slice A8 td.pl.length c8, .int .i64 td.rating, .int .i64 td.since] A5 td.pl.length (.slice A8 td.pl.length c8) td.pl) := by
                refine ⟨HT11.out.below HBW.out, HY11.out.below HBW.out, HQ11.out.below HBW.out, own_below HX11.out HBW.out, HB11.out.trans (HBW.out.mono HB11.out.size), ?_⟩
                rintro b5 rfl
                obtain ⟨L, hL, _, hn, _, hl, _⟩ := own_open (own_below HOW11.out HBW.out)
                exact ⟨L, hL, by omega⟩
              have HA5 : Hid (0 < td.pl.length → ∃ b5, A5 = some ⟨b5, 0, none⟩) := fun h => by
                obtain ⟨b5, cap, e, _⟩ := World.ownsRow.form HOW11.out h
                injection e with e _ _
                exact ⟨b5, e⟩
              have hpl8 : td.pl.length ≤ 8 := HF8.out
              have HS00 : Hid (w.heap.size ≤ s0) := HS0.out.1
              clear HT11 HY11 HQ11 HX11 HB11 HOW11 HBW HS11 HR11 HKK HK7 HSZ10 HSZ9 HSZ7 hge hk
              go_wp2_with fail
              go_loopw [17] (fun i W => ∃ k : Nat, k ≤ td.pl.length ∧ i = .int .i64 k ∧ Hid (AgainSt w W g b7 b10 (fun k => s0 ≤ k ∧ k < w9.heap.size + 1) ts10 #[.int .u32 td.id, .int .i64 td.mode, .slice A5 td.pl.length c5, .int .i64 td.rating, .int .i64 td.since] #[.int .u32 td.id, .int .i64 td.mode, .slice A8 td.pl.length c8, .int .i64 td.rating, .int .i64 td.since] A5 td.pl.length (.slice A8 td.pl.length c8) td.pl)) (fun i _ => td.pl.length - (intOf i).toNat)
              case atStart => exact ⟨0, Nat.zero_le _, rfl, HST⟩
              case round =>
                obtain ⟨k2, hk2, rfl, HS2⟩ := hrel
                obtain ⟨c7, f7⟩ := blk_rule HS2.out.t
                by_cases hlt2 : k2 < td.pl.length
                · obtain ⟨b5, rfl⟩ := HA5.out (by omega)
                  obtain ⟨cur, hcur, hcl⟩ := HS2.out.r b5 rfl
                  have hc5 := hcur.cell k2
                  rw [List.getElem?_toArray, List.getElem?_eq_getElem (by omega)] at hc5
                  have hf5 := hcur.frozen k2
                  have hp5 := HP5.out b5 rfl
                  have HS3 := Lib.hid (HS2.out.set hp5 (Nat.le_trans HS00.out hp5.1) (fun j hj e => by have := HLT8.out j hj; omega) k2 (.int .u32 77))
                  clear hcur hp5
                  go_wp2_with fail
                  go_roundw
                  case rel => exact ⟨k2 + 1, by omega, by go_num, HS3⟩
                  case measure => simp [intOf]; omega
                · have hge2 : ¬ ((k2 : Int) < (td.pl.length : Int)) := by omega
                  go_wp2_with fail
                  obtain ⟨t12, hf12, hk12⟩ := find_keys HK10.out HO.out
                  refine (get_law w.heap.size g _ ts10 [2, 4] x _ HS2.out.q).mono ?_
                  intro e w12 hgot12
                  rw [hf12] at hgot12
                  obtain ⟨pv12, rfl, hown12, hb12⟩ := hgot12
                  obtain ⟨A12, c12, rfl, _⟩ := hown12.shows.form
                  have HB12 := Lib.hid (HS2.out.b.trans (hb12.mono HS2.out.b.size))
                  have HX12 := Lib.hid (HS2.out.x.below hb12)
                  have HO12 : Hid (OwnN w12 w.heap.size 33 .u32 (.slice A8 td.pl.length c8) td.pl) := own_below HS2.out.o hb12
                  have HW12 := Lib.hid hown12
                  have HP12 : Hid (t12.pl = td.pl) := by show t12.pl = td.pl; simpa [Tk.key] using congrArg (·.2.2.1) hk12
                  clear hown12 hb12 hf12 hk12 HS2 c7 f7
                  go_wp2_with fail
                  refine (drop_nil x _).mono ?_
                  rintro e w13 ⟨rfl, hb13⟩
                  obtain ⟨b18, hb18⟩ : ∃ b18, b18 = w12.heap.size := ⟨_, rfl⟩
                  have hal : Below w12.heap.size w12 (w12.alloc (.cells #[.int .u32 t12.id, .int .i64 t12.mode, .slice A12 t12.pl.length c12, .int .i64 t12.rating, .int .i64 t12.since] 39)) := (Below.refl _ _).alloc (Nat.le_refl _) _
                  have hb13' : Below w12.heap.size w12 w13 := hal.trans (hb13.mono (by simp))
                  have HB13 := Lib.hid (HB12.out.trans (hb13'.mono HB12.out.size))
                  have HX13 := Lib.hid (HX12.out.below hb13')
                  have HY13 : Hid (Blk w13 b18 #[.int .u32 t12.id, .int .i64 t12.mode, .slice A12 t12.pl.length c12, .int .i64 t12.rating, .int .i64 t12.since] 39) := by rw [hb18]; exact Blk.below (heap_alloc_new w12 _) hb13
                  have HO13 : Hid (OwnN w13 w.heap.size 33 .u32 (.slice A8 td.pl.length c8) td.pl) := own_below HO12.out hb13'
                  have HW13 : Hid (Shows w13 .u32 (.slice A12 t12.pl.length c12) t12.pl) := (OwnN.shows HW12.out).below hb13'
                  rw [← hb18]
                  clear hal hb13 hb13' hb18 HB12 HX12 HO12 HW12
                  obtain ⟨c10, f10⟩ := blk_rule HX13.out
                  obtain ⟨c18, f18⟩ := blk_rule HY13.out
                  have l10 := HX13.out.lt
                  have l18 := HY13.out.lt
                  go_wp2_with fail
                  have ha14 : Below w13.heap.size w13 (w13.alloc (.cells #[.int .u32 0, .int .i64 0, .slice none 0 0, .int .i64 0, .int .i64 0] 39)) := (Below.refl _ _).alloc (Nat.le_refl _) _
                  refine (same07 _ _ t12.pl td.pl _ (.inl (HW13.out.below ha14)) (.inl (Shows.below (OwnN.shows HO13.out) ha14))).mono ?_
                  rintro e w14 ⟨rfl, hb14⟩
                  rw [decide_eq_true HP12.out]
                  obtain ⟨b21, hb21⟩ : ∃ b21, b21 = w13.heap.size := ⟨_, rfl⟩
                  have hb14' : Below w13.heap.size w13 w14 := ha14.trans (hb14.mono (by simp))
                  have HB14 := Lib.hid (HB13.out.trans (hb14'.mono HB13.out.size))
                  have HX14 := Lib.hid (HX13.out.below hb14')
                  have HZ14 : Hid (Blk w14 b21 #[.int .u32 0, .int .i64 0, .slice none 0 0, .int .i64 0, .int .i64 0] 39) := by rw [hb21]; exact Blk.below (heap_alloc_new w13 _) hb14
                  rw [← hb21]
                  clear ha14 hb14 hb14' hb21 HB13 HX13 HO13 HW13 HY13 c10 f10 c18 f18 l10 l18
                  obtain ⟨d10, e10⟩ := blk_rule HX14.out
                  have l10 := HX14.out.lt
                  go_wp2_with fail
                  refine (put_nil _ _ _ _ _ w14 rfl rfl rfl rfl rfl).mono ?_
                  rintro e w15 ⟨rfl, hb15⟩
                  have HB15 := Lib.hid (HB14.out.trans (hb15.mono HB14.out.size))
                  obtain ⟨d21, e21⟩ := blk_rule (HZ14.out.below hb15)
                  have l21 := (HZ14.out.below hb15).lt
                  clear hb15 HB14 HX14 d10 e10 l10
                  go_wp2_with (first
                    | (go_at_call 14; refine (of_nil _ _).mono ?_; rintro e w16 ⟨rfl, hb16⟩)
                    | (go_at_call 12; refine (mode_nil _ _).mono ?_; rintro e w17 ⟨rfl, rfl⟩)
                    | (go_at_call 15; refine (len_nil _).mono ?_; rintro e w18 ⟨rfl, rfl⟩)
                    | (go_at_call 16; refine (awake_any _).mono ?_; rintro e w19 ⟨rfl, hb19⟩))
                  go_ret
                  have hb17 := HB15.out.trans (hb16.mono HB15.out.size)
                  exact ⟨rfl, hb17.trans (hb19.mono hb17.size)⟩
end Go.Proofs.Ytlkpmlcmgggifaa
