/- The queue's acts, as the laws use them; the chapter's example. -/
import Derived.Test.YtlkpmlcmgggifaaQr
set_option linter.unusedVariables false
set_option linter.unusedSimpArgs false
namespace Go.Proofs.Ytlkpmlcmgggifaa
open Go.RowKit
/-- What a queue is made of. -/
def Foot (g : Nat) (va vs : Value) (ts : List Tk) (k : Nat) : Prop := k = g ∨ va.ownBlock = some k ∨ vs.ownBlock = some k ∨ ∃ t ∈ ts, t.pv.ownBlock = some k
theorem QRep.foot {w : World} {base g : Nat} {va vs : Value} {ts : List Tk} {sizes : List Int} (h : QRep w base g va vs ts sizes) {k : Nat} (hk : Foot g va vs ts k) : k < w.heap.size := by
  rcases hk with rfl | hk | hk | ⟨t, ht, hk⟩
  · exact h.blk.lt
  · exact own_lt h.all hk
  · exact own_lt h.szs hk
  · exact own_lt (h.pls t ht) hk
/-- At g stands a queue of the tickets ts, made of blocks from B on, none of P. -/
def QL (B : Nat) (P : Nat → Prop) (w : World) (g : Nat) (ts : List Tk) (sizes : List Int) : Prop := ∃ va vs, QRep w B g va vs ts sizes ∧ ∀ k, P k → ¬ Foot g va vs ts k
abbrev nop : Nat → Prop := fun _ => False
theorem QL.below {B : Nat} {P : Nat → Prop} {w w' : World} {g : Nat} {ts : List Tk} {sizes : List Int} (h : QL B P w g ts sizes) (hb : Below w.heap.size w w') : QL B P w' g ts sizes := by
  obtain ⟨va, vs, h, hp⟩ := h
  exact ⟨va, vs, h.below hb, hp⟩
theorem QL.any {B : Nat} {P : Nat → Prop} {w : World} {g : Nat} {ts : List Tk} {sizes : List Int} (h : QL B P w g ts sizes) : QL B nop w g ts sizes := by
  obtain ⟨va, vs, h, hp⟩ := h
  exact ⟨va, vs, h, fun _ c => c.elim⟩
/-- What is made later is none of it. -/
theorem QL.fresh {B : Nat} {P : Nat → Prop} {w : World} {g : Nat} {ts : List Tk} {sizes : List Int} (h : QL B P w g ts sizes) : QL B (fun k => w.heap.size ≤ k) w g ts sizes := by
  obtain ⟨va, vs, h, hp⟩ := h
  exact ⟨va, vs, h, fun k hk hf => by have := h.foot hf; omega⟩
theorem QL.narrow {B : Nat} {P P' : Nat → Prop} {w : World} {g : Nat} {ts : List Tk} {sizes : List Int} (h : QL B P w g ts sizes) (hp : ∀ k, P' k → P k) : QL B P' w g ts sizes := by
  obtain ⟨va, vs, h, hp'⟩ := h
  exact ⟨va, vs, h, fun k hk => hp' k (hp k hk)⟩
theorem QL.setCell {B : Nat} {P : Nat → Prop} {w : World} {g : Nat} {ts : List Tk} {sizes : List Int} (h : QL B P w g ts sizes) {a : Addr} (ha : P a.block) (u : Value) : QL B P (w.setCell a u) g ts sizes := by
  obtain ⟨va, vs, h, hp⟩ := h
  have hk : Kept w (w.setCell a u) (fun j => j = a.block) := Kept.setCell (S := fun j => j = a.block) (Kept.refl _ _) (fun _ => rfl) u
  have hn := hp _ ha
  refine ⟨va, vs, ⟨h.blk.kept hk (fun e => hn (.inl e.symm)), h.low, own_kept h.all hk (fun j hj e => hn (.inr (.inl (by rw [← e]; exact hj)))), own_kept h.szs hk (fun j hj e => hn (.inr (.inr (.inl (by rw [← e]; exact hj))))),
    fun t ht => own_kept (h.pls t ht) hk (fun j hj e => hn (.inr (.inr (.inr ⟨t, ht, by rw [← e]; exact hj⟩)))), h.few⟩, hp⟩
theorem QL.mono {B B' : Nat} {P : Nat → Prop} {w : World} {g : Nat} {ts : List Tk} {sizes : List Int} (h : QL B P w g ts sizes) (hb : B' ≤ B) : QL B' P w g ts sizes := by
  obtain ⟨va, vs, h, hp⟩ := h
  exact ⟨va, vs, ⟨h.blk, Nat.le_trans hb h.low, own_mono h.all hb, own_mono h.szs hb, fun t ht => own_mono (h.pls t ht) hb, h.few⟩, hp⟩
theorem QL.size {B : Nat} {P : Nat → Prop} {w : World} {g : Nat} {ts : List Tk} {sizes : List Int} (h : QL B P w g ts sizes) : B ≤ w.heap.size := by
  obtain ⟨va, vs, h, _⟩ := h
  exact Nat.le_of_lt (Nat.lt_of_le_of_lt h.low h.blk.lt)
theorem below_of_touch {w w' : World} {B g : Nat} {va vs : Value} {ts : List Tk} {sizes : List Int} (hq : QRep w B g va vs ts sizes) (hk : Kept w w' (fun k => k = g ∨ va.ownBlock = some k)) : Below B w w' := by
  refine below_of_kept hk (Nat.le_of_lt (Nat.lt_of_le_of_lt hq.low hq.blk.lt)) ?_
  intro j hj hs
  rcases hs with rfl | hs
  · exact absurd hq.low (by omega)
  · obtain ⟨_, _, h⟩ := own_blk hq.all hs
    omega
/-- the blocks of P stay, and all rows of ids -/
structure StayP (P : Nat → Prop) (w w' : World) : Prop where
  size : w.heap.size ≤ w'.heap.size
  p : ∀ k, P k → k < w.heap.size → w'.heap[k]? = w.heap[k]?
  u : ∀ k cur, Blk w k cur 33 → w'.heap[k]? = w.heap[k]?
theorem stay_of_touch {P : Nat → Prop} {w w' : World} {base g : Nat} {va vs : Value} {ts : List Tk} {sizes : List Int} (hq : QRep w base g va vs ts sizes) (hp : ∀ k, P k → ¬ Foot g va vs ts k) (hk : Kept w w' (fun k => k = g ∨ va.ownBlock = some k)) : StayP P w w' :=
  ⟨hk.size, fun k h1 h2 => hk.block k h2 (fun hs => hp k h1 (hs.imp id .inl)), fun k cur hb => hk.block k hb.lt (fun hs => by
    rcases hs with rfl | hs
    · exact absurd rfl (hb.ne hq.blk (by decide))
    · obtain ⟨c2, b2, _⟩ := own_blk hq.all hs
      exact absurd rfl (hb.ne b2 (by decide)))⟩
theorem StayP.blk {P : Nat → Prop} {w w' : World} (h : StayP P w w') {k : Nat} {cur : Array Value} {t : TypeId} (hb : Blk w k cur t) (hk : P k) : Blk w' k cur t := (h.p k hk hb.lt).trans hb
theorem StayP.own {P : Nat → Prop} {w w' : World} (h : StayP P w w') {base : Nat} {e : TypeId} {size : Nat} {v : Value} {n : Nat} {xs : List Value} (ho : w.ownsRow base e size v n xs) (hP : ∀ k, base ≤ k → k < w.heap.size → P k) : w'.ownsRow base e size v n xs := by
  refine ⟨ho.1, ?_⟩
  rcases ho.2 with hn' | ⟨g, cap, cur, rfl, hb, hgg, rest⟩
  · exact .inl hn'
  · exact .inr ⟨g, cap, cur, rfl, hb, by rw [h.p g (hP g hb (Array.getElem?_eq_some_iff.1 hgg).1) (Array.getElem?_eq_some_iff.1 hgg).1]; exact hgg, rest⟩
theorem StayP.ids {P : Nat → Prop} {w w' : World} (h : StayP P w w') {base : Nat} {v : Value} {xs : List Int} (ho : OwnN w base 33 .u32 v xs) : OwnN w' base 33 .u32 v xs := by
  refine ⟨ho.1, ?_⟩
  rcases ho.2 with hn' | ⟨g, cap, cur, rfl, hb, hgg, rest⟩
  · exact .inl hn'
  · exact .inr ⟨g, cap, cur, rfl, hb, by rw [h.u g cur hgg]; exact hgg, rest⟩
theorem StayP.row {P : Nat → Prop} {w w' : World} (h : StayP P w w') {base : Nat} {v : Value} {ts : List Tk} (ho : ORow w base v ts) (hP : ∀ k, base ≤ k → k < w.heap.size → P k) : ORow w' base v ts := ⟨h.own ho.row hP, fun t ht => h.own (ho.pls t ht) hP⟩
theorem stay_of_below {P : Nat → Prop} {w w' : World} (h : Below w.heap.size w w') : StayP P w w' := ⟨h.size, fun k _ hk => h.block k hk, fun k cur hb => h.block k hb.lt⟩
def PutL (B : Nat) (P : Nat → Prop) (w w' : World) (g : Nat) (ts : List Tk) (sizes : List Int) (t : Tk) (e : Ending) : Prop :=
  e = .returned (.int .i64 (putCode ts sizes t)) ∧ Below B w w' ∧ StayP P w w' ∧ ∃ ts', QL B P w' g ts' sizes ∧ (putCode ts sizes t ≠ 0 → ts' = ts) ∧ (putCode ts sizes t = 0 → ∃ t', t'.key = t.key ∧ ts' = insT t' ts)
theorem put_law (B g : Nat) (P : Nat → Prop) (ts : List Tk) (sizes : List Int) (id mode rating since : Int) (pv : Value) (pl : List Int) (w : World) (hq : QL B P w g ts sizes) (hP : ∀ k, P k → k < w.heap.size) (hs : Shows w .u32 pv pl) (hf : pl.length ≤ 8) (hmany : ts.length ≤ 1000) (hi : SortedT ts) :
    Calls Try.prog 10 #[.pointer (some ⟨g, 0, none⟩), .agg #[.int .u32 id, .int .i64 mode, pv, .int .i64 rating, .int .i64 since]] w fun e w' => PutL B P w w' g ts sizes ⟨id, mode, pv, pl, rating, since⟩ e := by
  have hB := hq.size
  obtain ⟨va, vs, hq, hp⟩ := hq
  refine (put_some B g va vs ts sizes ⟨id, mode, pv, pl, rating, since⟩ w hq hs hf hmany hi hB).mono ?_
  rintro e w' ⟨h1, h2, h3⟩
  refine ⟨h1, ?_⟩
  by_cases hc : putCode ts sizes ⟨id, mode, pv, pl, rating, since⟩ = 0
  · obtain ⟨va', t', hk, hqr, hkp, hfr, hfr2⟩ := h3 hc
    refine ⟨below_of_touch hq hkp, stay_of_touch hq hp hkp, _, ⟨va', vs, hqr, ?_⟩, fun h => absurd hc h, fun _ => ⟨t', hk, rfl⟩⟩
    intro k hPk hf
    rcases hf with rfl | hf | hf | ⟨t, ht, hf⟩
    · exact hp _ hPk (.inl rfl)
    · rcases hfr k hf with h | h
      · exact hp k hPk (.inr (.inl h))
      · have := hP k hPk; omega
    · exact hp k hPk (.inr (.inr (.inl hf)))
    · rcases insT_mem t' ts t ht with rfl | ht
      · have := hfr2 k hf; have := hP k hPk; omega
      · exact hp k hPk (.inr (.inr (.inr ⟨t, ht, hf⟩)))
  · exact ⟨(h2 hc).mono hB, stay_of_below (h2 hc), ts, ⟨va, vs, hq.below (h2 hc), hp⟩, fun _ => rfl, fun h => absurd h hc⟩
def DropL (B : Nat) (P : Nat → Prop) (w w' : World) (g : Nat) (ts : List Tk) (sizes : List Int) (x : Int) (e : Ending) : Prop :=
  (ts.find? (fun t => t.id == x) = none ∧ e = .returned (.tuple #[.agg #[.int .u32 0, .int .i64 0, .slice none 0 0, .int .i64 0, .int .i64 0], .bool false]) ∧ Below B w w' ∧ StayP P w w' ∧ QL B P w' g ts sizes) ∨
  ∃ k t A c, k < ts.length ∧ t = ts.getD k Tk.zero ∧ ts.find? (fun t => t.id == x) = some t ∧ e = .returned (.tuple #[.agg #[.int .u32 t.id, .int .i64 t.mode, .slice A t.pl.length c, .int .i64 t.rating, .int .i64 t.since], .bool true]) ∧ Below B w w' ∧ StayP P w w' ∧ QL B P w' g (ts.eraseIdx k) sizes ∧ t.pl.length ≤ 8 ∧
    OwnN w' B 33 .u32 (.slice A t.pl.length c) t.pl ∧ ∀ j, (Value.slice A t.pl.length c).ownBlock = some j → j < w.heap.size ∧ ¬ P j
theorem drop_law (B g : Nat) (P : Nat → Prop) (ts : List Tk) (sizes : List Int) (x : Int) (w : World) (hq : QL B P w g ts sizes) :
    Calls Try.prog 18 #[.pointer (some ⟨g, 0, none⟩), .int .u32 x] w fun e w' => DropL B P w w' g ts sizes x e := by
  have hB := hq.size
  obtain ⟨va, vs, hq, hp⟩ := hq
  refine (drop_some B g va vs ts sizes x w hq).mono ?_
  rintro e w' (⟨h1, h2, h3⟩ | ⟨k, hk, h1, _, h2, va', h3, h4, h5⟩)
  · exact .inl ⟨h1, h2, h3.mono hB, stay_of_below h3, va, vs, hq.below h3, hp⟩
  · obtain ⟨t, ht⟩ : ∃ t, t = ts.getD k Tk.zero := ⟨_, rfl⟩
    rw [← ht] at h1 h2
    have htm : t ∈ ts := by rw [ht]; exact getD_mem _ _ _ hk
    have ho := hq.pls t htm
    obtain ⟨A, c, hpv, _⟩ := ho.shows.form
    have ho2 : OwnN w' B 33 .u32 t.pv t.pl := by
      refine own_kept ho h4 ?_
      intro j hj hs
      rcases hs with rfl | hs
      · exact own_ne ho hq.blk (by decide) _ hj rfl
      · obtain ⟨c1, b1, _⟩ := own_blk ho hj
        obtain ⟨c2, b2, _⟩ := own_blk hq.all hs
        exact absurd rfl (b1.ne b2 (by decide))
    refine .inr ⟨k, t, A, c, hk, ht, h1, by rw [h2, hpv], below_of_touch hq h4, stay_of_touch hq hp h4, ⟨va', vs, h3, ?_⟩, hq.few t htm, ?_, ?_⟩
    · intro k2 hk2 hf
      rcases hf with rfl | hf | hf | ⟨t2, ht2, hf⟩
      · exact hp _ hk2 (.inl rfl)
      · exact hp k2 hk2 (.inr (.inl (by rw [← h5]; exact hf)))
      · exact hp k2 hk2 (.inr (.inr (.inl hf)))
      · exact hp k2 hk2 (.inr (.inr (.inr ⟨t2, List.mem_of_mem_eraseIdx ht2, hf⟩)))
    · rw [hpv] at ho2
      exact ho2
    · intro j hj
      rw [← hpv] at hj
      exact ⟨own_lt ho hj, fun hP => hp j hP (.inr (.inr (.inr ⟨t, htm, hj⟩)))⟩
theorem mode_law (B g : Nat) (P : Nat → Prop) (ts : List Tk) (sizes : List Int) (m : Int) (w : World) (hq : QL B P w g ts sizes) (hmany : ts.length ≤ 1000) :
    Calls Try.prog 12 #[.pointer (some ⟨g, 0, none⟩), .int .i64 m] w fun e w' => ModeRes w w' (ts.filter (fun t => t.mode == m)) e := by
  obtain ⟨va, vs, hq, _⟩ := hq
  exact mode_some B g va vs ts sizes m w hq hmany
theorem get_law (B g : Nat) (P : Nat → Prop) (ts : List Tk) (sizes : List Int) (x : Int) (w : World) (hq : QL B P w g ts sizes) :
    Calls Try.prog 23 #[.pointer (some ⟨g, 0, none⟩), .int .u32 x] w fun e w' => GotCopy w w' (ts.find? (fun t => t.id == x)) e := by
  obtain ⟨va, vs, hq, _⟩ := hq
  exact get_some B g va vs ts sizes x w hq
theorem of_law (B g : Nat) (P : Nat → Prop) (ts : List Tk) (sizes : List Int) (x : Int) (w : World) (hq : QL B P w g ts sizes) :
    Calls Try.prog 14 #[.pointer (some ⟨g, 0, none⟩), .int .u32 x] w fun e w' => e = .returned (.int .u32 (idOf (ts.find? (fun t => decide (x ∈ t.pl))))) ∧ Below w.heap.size w w' := by
  obtain ⟨va, vs, hq, _⟩ := hq
  exact of_some B g va vs ts sizes x w hq
theorem len_law (B g : Nat) (P : Nat → Prop) (ts : List Tk) (sizes : List Int) (w : World) (hq : QL B P w g ts sizes) :
    Calls Try.prog 15 #[.pointer (some ⟨g, 0, none⟩)] w fun e w' => e = .returned (.int .i64 ts.length) ∧ w = w' := by
  obtain ⟨va, vs, hq, _⟩ := hq
  exact len_some B g va vs ts sizes w hq
theorem usual_new (w : World) (v : Value) (ms : List Md) (hs : ShowsM w v ms) (hmany : ms.length ≤ 1000) : Calls Try.prog 8 #[usualV v] w fun e w' => ∃ g, e = .returned (.pointer (some ⟨g, 0, none⟩)) ∧ QL w.heap.size nop w' g [] (ms.map Md.k) ∧ Below w.heap.size w w' := by
  refine (new_any w _ _ _ _ _ _ _ _ _ _ _ _ _ rfl rfl rfl rfl rfl rfl rfl rfl rfl rfl rfl rfl rfl v ms hs hmany).mono ?_
  rintro e w' ⟨g, vs, rfl, h, hb⟩
  exact ⟨g, rfl, ⟨_, vs, h, fun _ c => c.elim⟩, hb⟩
theorem shows_new1 (w : World) (t : TypeId) (x : Int) : Shows (w.alloc (.cells #[.int .u32 x] t)) .u32 (.slice (some ⟨w.heap.size, 0, none⟩) 1 1) [x] := by
  have h : Blk (w.alloc (.cells #[.int .u32 x] t)) w.heap.size _ _ := heap_alloc_new w _
  refine .inr ⟨w.heap.size, 0, 1, rfl, Nat.le_refl _, by unfold maxLen; omega, h.lt, fun j hj => ?_⟩
  have hj0 : j = 0 := by simpa using hj
  subst hj0
  simp [h.cell 0]
theorem shows_new2 (w : World) (t : TypeId) (x y : Int) : Shows (w.alloc (.cells #[.int .u32 x, .int .u32 y] t)) .u32 (.slice (some ⟨w.heap.size, 0, none⟩) 2 2) [x, y] := by
  have h : Blk (w.alloc (.cells #[.int .u32 x, .int .u32 y] t)) w.heap.size _ _ := heap_alloc_new w _
  refine .inr ⟨w.heap.size, 0, 2, rfl, Nat.le_refl _, by unfold maxLen; omega, h.lt, fun j hj => ?_⟩
  have hj0 : j = 0 ∨ j = 1 := by simp at hj; omega
  rcases hj0 with rfl | rfl
  · simp [h.cell 0]
  · simp [h.cell 1]
theorem key_is {t : Tk} {a b d e : Int} {c : List Int} (h : t.key = (a, b, c, d, e)) : t = ⟨a, b, t.pv, c, d, e⟩ := by
  obtain ⟨i, m, pv, pl, r, s⟩ := t
  simp only [Tk.key, Prod.mk.injEq] at h
  obtain ⟨rfl, rfl, rfl, rfl, rfl⟩ := h
  rfl
theorem awake1 (pv : Value) : putCode [] [2] ⟨5, 0, pv, [1], 0, 9⟩ = 0 := by rfl
theorem awake2 (p1 pv : Value) : putCode [⟨5, 0, p1, [1], 0, 9⟩] [2] ⟨3, 0, pv, [2], 0, 9⟩ = 0 := by rfl
theorem awake3 (p2 p1 pv : Value) : putCode [⟨3, 0, p2, [2], 0, 9⟩, ⟨5, 0, p1, [1], 0, 9⟩] [2] ⟨4, 0, pv, [3, 4], 0, 7⟩ = 0 := by rfl
theorem awakeB (p3 p2 p1 : Value) : insT ⟨3, 0, p2, [2], 0, 9⟩ [⟨5, 0, p1, [1], 0, 9⟩] = [⟨3, 0, p2, [2], 0, 9⟩, ⟨5, 0, p1, [1], 0, 9⟩] ∧ insT ⟨4, 0, p3, [3, 4], 0, 7⟩ [⟨3, 0, p2, [2], 0, 9⟩, ⟨5, 0, p1, [1], 0, 9⟩] = [⟨4, 0, p3, [3, 4], 0, 7⟩, ⟨3, 0, p2, [2], 0, 9⟩, ⟨5, 0, p1, [1], 0, 9⟩] := ⟨rfl, rfl⟩
set_option maxHeartbeats 3200000 in
set_option maxRecDepth 100000 in
theorem awake_any (w : World) : Calls Try.prog 16 #[] w fun e w' => e = .returned (.bool true) ∧ Below w.heap.size w w' := by
  go_enter Try.func16, Try.ntmps16
  go_wp2_with fail
  refine (usual_any _ w.heap.size 1 [⟨2, 0, 0, 0, 1⟩] (heap_alloc_new w _) (by decide)).mono ?_
  rintro e w1 ⟨v', rfl, hsm, hb1⟩
  have HB1 : Hid (Below w.heap.size w w1) := ((Below.refl _ _).alloc (Nat.le_refl _) _).trans (hb1.mono (by simp))
  have HSM := Lib.hid hsm
  clear hb1 hsm
  go_wp2_with fail
  refine (usual_new w1 v' _ HSM.out (by decide)).mono ?_
  rintro e w2 ⟨g, rfl, hq, hb2⟩
  have HQ2 : Hid (QL w.heap.size nop w2 g [] [2]) := hq.mono HB1.out.size
  have HB2 : Hid (Below w.heap.size w w2) := HB1.out.trans (hb2.mono HB1.out.size)
  clear hq hb2 HB1 HSM
  go_wp2_with fail
  refine (put_law w.heap.size g nop [] [2] 5 0 0 9 _ [1] _ (HQ2.out.below ((Below.refl _ _).alloc (Nat.le_refl _) _)) (fun _ c => c.elim) (shows_new1 w2 _ 1) (by decide) (by decide) List.Pairwise.nil).mono ?_
  rintro e w3 ⟨rfl, hb3, _, ts3, hq3, _, h3⟩
  obtain ⟨t3, hk3, rfl⟩ := h3 (awake1 _)
  have HQ3 : Hid (QL w.heap.size nop w3 g [⟨5, 0, t3.pv, [1], 0, 9⟩] [2]) := by rw [key_is hk3] at hq3; exact hq3
  have HB3 : Hid (Below w.heap.size w w3) := (HB2.out.alloc HB2.out.size _).trans hb3
  rw [awake1]
  clear h3 hk3 hq3 hb3 HB2 HQ2
  generalize t3.pv = p3 at HQ3
  go_wp2_with fail
  refine (put_law w.heap.size g nop _ [2] 3 0 0 9 _ [2] _ (HQ3.out.below ((Below.refl _ _).alloc (Nat.le_refl _) _)) (fun _ c => c.elim) (shows_new1 w3 _ 2) (by decide) (by simp) (List.pairwise_singleton _ _)).mono ?_
  rintro e w4 ⟨rfl, hb4, _, ts4, hq4, _, h4⟩
  obtain ⟨t4, hk4, rfl⟩ := h4 (awake2 _ _)
  have HQ4 : Hid (QL w.heap.size nop w4 g [⟨3, 0, t4.pv, [2], 0, 9⟩, ⟨5, 0, p3, [1], 0, 9⟩] [2]) := by rw [key_is hk4, (awakeB p3 _ _).1] at hq4; exact hq4
  have HB4 : Hid (Below w.heap.size w w4) := (HB3.out.alloc HB3.out.size _).trans hb4
  rw [awake2]
  clear h4 hk4 hq4 hb4 HB3 HQ3
  generalize t4.pv = p4 at HQ4
  go_wp2_with fail
  refine (put_law w.heap.size g nop _ [2] 4 0 0 7 _ [3, 4] _ (HQ4.out.below ((Below.refl _ _).alloc (Nat.le_refl _) _)) (fun _ c => c.elim) (shows_new2 w4 _ 3 4) (by decide) (by simp) (by simp [SortedT, ordT_neg])).mono ?_
  rintro e w5 ⟨rfl, hb5, _, ts5, hq5, _, h5⟩
  obtain ⟨t5, hk5, rfl⟩ := h5 (awake3 _ _ _)
  have HQ5 : Hid (QL w.heap.size nop w5 g [⟨4, 0, t5.pv, [3, 4], 0, 7⟩, ⟨3, 0, p4, [2], 0, 9⟩, ⟨5, 0, p3, [1], 0, 9⟩] [2]) := by rw [key_is hk5, (awakeB _ _ _).2] at hq5; exact hq5
  have HB5 : Hid (Below w.heap.size w w5) := (HB4.out.alloc HB4.out.size _).trans hb5
  rw [awake3]
  clear h5 hk5 hq5 hb5 HB4 HQ4
  generalize t5.pv = p5 at HQ5
  go_wp2_with fail
  refine (mode_law w.heap.size g nop _ [2] 0 w5 HQ5.out (by simp)).mono ?_
  rintro e w6 ⟨v6, ts6, rfl, hor, hkeys, hb6⟩
  have HB6 : Hid (Below w.heap.size w w6) := HB5.out.trans (hb6.mono HB5.out.size)
  obtain ⟨x, y, z, rfl⟩ : ∃ x y z, ts6 = [x, y, z] := by
    have h := congrArg List.length hkeys
    simp at h
    match ts6, h with
    | [x, y, z], _ => exact ⟨x, y, z, rfl⟩
  obtain ⟨k1, k2, k3⟩ : x.id = 4 ∧ y.id = 3 ∧ z.id = 5 := by
    simp [Tk.key] at hkeys
    exact ⟨hkeys.1.1, hkeys.2.1.1, hkeys.2.2.1⟩
  rcases own_trow hor.row with ⟨_, h0⟩ | ⟨b, c, rfl, hm, hlt, ht⟩
  · cases h0
  have d0 := ht.c0 0 (by simp)
  have d1 := ht.c0 1 (by simp)
  have d2 := ht.c0 2 (by simp)
  simp [k1, k2, k3] at d0 d1 d2
  clear hor hkeys hb6 HB5 HQ5 ht k1 k2 k3
  go_wp2_with fail
  go_ret
  exact ⟨rfl, HB6.out⟩
end Go.Proofs.Ytlkpmlcmgggifaa
