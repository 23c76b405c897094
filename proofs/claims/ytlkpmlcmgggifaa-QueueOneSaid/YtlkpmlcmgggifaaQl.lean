/- The usual config. -/
import Derived.Test.YtlkpmlcmgggifaaQk
set_option linter.unusedVariables false
set_option linter.unusedSimpArgs false
namespace Go.Proofs.Ytlkpmlcmgggifaa
open Go.RowKit
theorem info32 : (Try.prog.info? 32).map (fun i => (i.zero, i.size, i.bytes)) = some (some (.agg #[.int .i64 0, .int .i64 0, .int .i64 0, .int .i64 0, .int .i64 0]), 5, 40) := by kernel_rfl
theorem flat_getM (ms : List Md) : ∀ (i : Nat), i < ms.length → ∀ j, j < 5 → (ms.flatMap Md.cs)[i * 5 + j]? = (ms.getD i Md.zero).cs[j]? := by
  induction ms with
  | nil => intro i hi; simp at hi
  | cons t r ih =>
    intro i hi j hj
    have hl : t.cs.length = 5 := rfl
    rw [List.flatMap_cons]
    cases i with
    | zero => rw [List.getElem?_append_left (by omega)]; simp
    | succ i =>
      rw [List.getElem?_append_right (by omega), hl, show (i + 1) * 5 + j - 5 = i * 5 + j by omega, ih i (by simpa using hi) j hj]
      simp
theorem flat_lenM (ms : List Md) : (ms.flatMap Md.cs).length = ms.length * 5 := by
  induction ms with
  | nil => rfl
  | cons t r ih => rw [List.flatMap_cons, List.length_append, ih, List.length_cons, show t.cs.length = 5 from rfl]; omega
theorem flat_oneM (ms : List Md) : ∀ u ∈ ms.flatMap Md.cs, u.oneCell' = true := by
  intro u hu
  obtain ⟨m, _, hm⟩ := List.mem_flatMap.1 hu
  simp only [Md.cs, List.mem_cons, List.not_mem_nil, or_false] at hm
  rcases hm with rfl | rfl | rfl | rfl | rfl <;> rfl
theorem own_showsM {w : World} {base e : Nat} {v : Value} {ms : List Md} (h : w.ownsRow base e 5 v ms.length (ms.flatMap Md.cs)) : ShowsM w v ms := by
  rcases h.2 with ⟨rfl, hn⟩ | ⟨g, cap, cur, rfl, hb, hgg, hnc, hcm, hcs, ht⟩
  · exact ⟨none, 0, by rw [hn], fun h => by omega⟩
  · have h1 : w.ownsRow base e 5 (.slice (some ⟨g, 0, none⟩) ms.length cap) ms.length (ms.flatMap Md.cs) := h
    have hc : ∀ i, i < ms.length → ∀ j, j < 5 → w.cell? ⟨g, i * 5 + j, none⟩ = (ms.getD i Md.zero).cs[j]? := fun i hi j hj => by
      rw [h1.cellAt _ (by omega), flat_getM ms i hi j hj]
    exact ⟨_, cap, rfl, fun _ => ⟨g, rfl, (Array.getElem?_eq_some_iff.1 hgg).1, fun i hi => ⟨hc i hi 0 (by omega), hc i hi 1 (by omega), hc i hi 2 (by omega), hc i hi 3 (by omega), hc i hi 4 (by omega)⟩⟩⟩
theorem ShowsM.below {w w' : World} {v : Value} {ms : List Md} (h : ShowsM w v ms) (hb : Below w.heap.size w w') : ShowsM w' v ms := by
  obtain ⟨A, c, rfl, hA⟩ := h
  refine ⟨A, c, rfl, fun hp => ?_⟩
  obtain ⟨b, rfl, hlt, hc⟩ := hA hp
  refine ⟨b, rfl, Nat.lt_of_lt_of_le hlt hb.size, fun i hi => ?_⟩
  obtain ⟨c0, c1, c2, c3, c4⟩ := hc i hi
  exact ⟨(hb.cell (p := ⟨b, i * 5, none⟩) hlt).trans c0, (hb.cell (p := ⟨b, i * 5 + 1, none⟩) hlt).trans c1, (hb.cell (p := ⟨b, i * 5 + 2, none⟩) hlt).trans c2, (hb.cell (p := ⟨b, i * 5 + 3, none⟩) hlt).trans c3, (hb.cell (p := ⟨b, i * 5 + 4, none⟩) hlt).trans c4⟩
def CloneMRes (w w' : World) (ms : List Md) (e : Ending) : Prop := ∃ v', e = .returned v' ∧ w'.ownsRow w.heap.size 32 5 v' ms.length (ms.flatMap Md.cs) ∧ Below w.heap.size w w'
set_option maxHeartbeats 1600000 in
set_option maxRecDepth 100000 in
theorem cloneM (w : World) (b c : Nat) (ms : List Md) (hb : Blk w b (ms.flatMap Md.cs).toArray 32) (hmany : ms.length ≤ 1000) :
    Calls Try.prog 48 #[.slice (some ⟨b, 0, none⟩) ms.length c] w fun e w' => CloneMRes w w' ms e := by
  obtain ⟨i0, hi, hz0, hz1, hz2⟩ := info_parts info32
  have HI := Lib.hid hi
  have HZ0 := Lib.hid hz0
  have HZ1 := Lib.hid hz1
  have HZ2 := Lib.hid hz2
  have HO : Hid ((w.alloc (.cells #[] 32)).ownsRow w.heap.size 32 5 (.slice (some ⟨w.heap.size, 0, none⟩) 0 0) 0 []) := World.ownsRow_lit w #[] 0 (Nat.le_refl _) (by unfold maxLen; omega) rfl
  have HB : Hid (Blk (w.alloc (.cells #[] 32)) b (ms.flatMap Md.cs).toArray 32) := hb.below ((Below.refl _ _).alloc (Nat.le_refl _) _)
  have hlt := hb.lt
  have hnil := fun (w : World) => Lib.run_eql_slice_nil (P := Try.prog) w 27 32 (some ⟨b, 0, none⟩) ms.length c 0 0 Try.underlying27
  have HL := Lib.hid (flat_lenM ms)
  have HV := Lib.hid (flat_oneM ms)
  obtain ⟨n, hn⟩ : ∃ n, n = ms.length := ⟨_, rfl⟩
  rw [← hn] at hmany hnil HL ⊢
  have HN := Lib.hid hn
  clear hi hz0 hz1 hz2 hb hn
  go_enter Try.func48, Try.ntmps48
  go_wp2_with (at_builtin; refine wpList_append_own _ rfl (.tmp 5) (.tmp 6) 27 rfl w.heap.size 32 i0 _ 5 40 Try.underlying27 HI.out HZ0.out HZ1.out HZ2.out rfl (by decide) (.slice (some ⟨w.heap.size, 0, none⟩) 0 0) 0 [] rfl HO.out ⟨b, 0, none⟩ n c (ms.flatMap Md.cs) rfl (by rw [HL.out]) (World.news_of_block HB.out) HV.out (by unfold maxLen; omega) (by omega) (by simp) ?_; intro v' w1 hown hg hn0)
  go_ret
  have h2 : w1.ownsRow w.heap.size 32 5 v' ms.length (ms.flatMap Md.cs) := by rw [← HN.out]; simpa using hown
  exact ⟨v', rfl, h2, ((Below.refl w.heap.size w).alloc (Nat.le_refl _) _).grown hg (by simp) (fun k e => by simp [Value.ownBlock] at e; omega)⟩

def usualV (v : Value) : Value := .agg #[.string ⟨#[116, 105, 108, 116]⟩, .int .i64 16, .int .i64 16, .int .i64 8, .int .i64 4, .int .i64 100, .int .i64 50, .int .i64 20, .int .i64 10, .int .i64 15, .int .i64 30, .int .i64 20, .int .i64 8192, v]
def UsualRes (w w' : World) (ms : List Md) (e : Ending) : Prop := ∃ v', e = .returned (usualV v') ∧ ShowsM w' v' ms ∧ Below w.heap.size w w'
set_option maxHeartbeats 1600000 in
set_option maxRecDepth 100000 in
theorem usual_any (w : World) (b c : Nat) (ms : List Md) (hb : Blk w b (ms.flatMap Md.cs).toArray 32) (hmany : ms.length ≤ 1000) :
    Calls Try.prog 9 #[.slice (some ⟨b, 0, none⟩) ms.length c] w fun e w' => UsualRes w w' ms e := by
  obtain ⟨n, hn⟩ : ∃ n, n = ms.length := ⟨_, rfl⟩
  have HB := Lib.hid hb
  rw [← hn]
  have HN := Lib.hid hn
  have HM := Lib.hid hmany
  clear hb hn hmany
  go_enter Try.func9, Try.ntmps9
  go_wp2_with (go_at_call 48; rw [HN.out]; refine (cloneM _ b c ms (HB.out.below ((Below.refl _ _).alloc (Nat.le_refl _) _)) HM.out).mono ?_; rintro e w' ⟨v', rfl, hv', hb'⟩
               obtain ⟨A', c', rfl, hA'⟩ := own_showsM hv'
               have bR := (show Blk (w.alloc (.cells #[.string ⟨#[]⟩, .int .i64 0, .int .i64 0, .int .i64 0, .int .i64 0, .int .i64 0, .int .i64 0, .int .i64 0, .int .i64 0, .int .i64 0, .int .i64 0, .int .i64 0, .int .i64 0, .slice none 0 0] 29)) w.heap.size _ _ from heap_alloc_new w _).below hb'
               obtain ⟨cR, fR⟩ := blk_rule bR
               have HA' := Lib.hid hv'
               have HB2 := Lib.hid (((Below.refl w.heap.size w).alloc (Nat.le_refl _) _).trans (hb'.mono (by simp)))
               have hlt := bR.lt
               clear hA' hb' bR hv')
  refine bodyPost_ret (v := usualV (.slice A' ms.length c')) ?_ rfl ?_
  · simp [results, Try.results9, go_sem, cR, usualV]
  · refine ⟨_, rfl, ?_, ?_⟩
    · have hne : ∀ k, (Value.slice A' ms.length c').ownBlock = some k → ¬ (fun k => k = w.heap.size) k := by
        intro k e h
        obtain ⟨_, _, h3⟩ := own_blk HA'.out e
        simp at h3; omega
      exact own_showsM (own_kept HA'.out (((((((((((((((Kept.refl w' (fun k => k = w.heap.size)).setCell (fun _ => rfl) _).setCell (fun _ => rfl) _).setCell (fun _ => rfl) _).setCell (fun _ => rfl) _).setCell (fun _ => rfl) _).setCell (fun _ => rfl) _).setCell (fun _ => rfl) _).setCell (fun _ => rfl) _).setCell (fun _ => rfl) _).setCell (fun _ => rfl) _).setCell (fun _ => rfl) _).setCell (fun _ => rfl) _).setCell (fun _ => rfl) _).setCell (fun _ => rfl) _) hne)
    · exact ((((((((((((((HB2.out.setCell (Nat.le_refl _) _).setCell (Nat.le_refl _) _).setCell (Nat.le_refl _) _).setCell (Nat.le_refl _) _).setCell (Nat.le_refl _) _).setCell (Nat.le_refl _) _).setCell (Nat.le_refl _) _).setCell (Nat.le_refl _) _).setCell (Nat.le_refl _) _).setCell (Nat.le_refl _) _).setCell (Nat.le_refl _) _).setCell (Nat.le_refl _) _).setCell (Nat.le_refl _) _).setCell (Nat.le_refl _) _)
end Go.Proofs.Ytlkpmlcmgggifaa
