/- A ticket of the document as the program's; are two rows alike? -/
import Derived.Test.YtlkpmlcmgggifaaQo
import Derived.Deep.RegionLaw
import Derived.Maps.AppendAt
import Derived.Deep.AppendSrc
set_option linter.unusedVariables false
set_option linter.unusedSimpArgs false
namespace Go.Proofs.Ytlkpmlcmgggifaa
open Go.RowKit
/-- v shows xs; an empty row may stand anywhere. -/
def ShowsA (w : World) (k : IntKind) (v : Value) (xs : List Int) : Prop := Shows w k v xs ∨ (xs = [] ∧ ∃ a c, v = .slice (some a) 0 c)
theorem ShowsA.form {w : World} {k : IntKind} {v : Value} {xs : List Int} (h : ShowsA w k v xs) : ∃ A c, v = .slice A xs.length c := by
  rcases h with h | ⟨rfl, a, c, rfl⟩
  · obtain ⟨A, c, h, _⟩ := h.form
    exact ⟨A, c, h⟩
  · exact ⟨_, c, rfl⟩
theorem ShowsA.below {w w' : World} {k : IntKind} {v : Value} {xs : List Int} (h : ShowsA w k v xs) (hb : Below w.heap.size w w') : ShowsA w' k v xs := h.imp (fun h => h.below hb) id
theorem ShowsA.pos {w : World} {k : IntKind} {v : Value} {xs : List Int} (h : ShowsA w k v xs) (hp : 0 < xs.length) : Shows w k v xs := by
  rcases h with h | ⟨rfl, _⟩
  · exact h
  · simp at hp
/-- append onto an empty row. -/
theorem append_u32 (w : World) (ty : TypeId) (g : Nat) (pv : Value) (pl : List Int) (hg : w.heap[g]? = some (.cells #[] 33 (0, 0))) (hs : ShowsA w .u32 pv pl) (hf : pl.length ≤ 8) :
    ∃ v' w', (Builtin.append_ #[34, 34] ty #[.slice (some ⟨g, 0, none⟩) 0 0, pv]).run Try.prog w = .ok v' w' ∧ OwnN w' g 33 .u32 v' pl ∧ w.grownBy w' (some g) := by
  obtain ⟨i0, hi, hz0, hz1, hz2⟩ := info_parts info33
  have hown : w.ownsRow g 33 1 (.slice (some ⟨g, 0, none⟩) 0 0) 0 [] := ⟨rfl, .inr ⟨g, 0, #[], rfl, Nat.le_refl _, hg, Nat.le_refl _, by unfold maxLen; omega, rfl, rfl⟩⟩
  have hlt : g < w.heap.size := (Array.getElem?_eq_some_iff.1 hg).1
  rcases hs with (⟨rfl, rfl⟩ | ⟨b, off, c, rfl, hlc, hm, hlt2, hc⟩) | ⟨rfl, a, c, rfl⟩
  · refine ⟨.slice (some ⟨g, 0, none⟩) 0 0, w, ?_, hown, World.grownBy.refl _ _⟩
    have h := run_append_room_src (P := Try.prog) w 34 34 ty 33 i0 Try.underlying34 hi g 0 0 0 (.slice none 0 0) 0 [] (Src.ofNil w Try.underlying34 0) (Nat.le_refl _) (fun j hj => absurd hj (by simp)) (fun j hj => absurd hj (by simp))
    simpa [World.setCells] using h
  · obtain ⟨v', w', h1, h2, h3, _, _⟩ := run_append_own_at (P := Try.prog) w g 34 ty 33 i0 _ 1 4 Try.underlying34 hi hz0 hz1 hz2 rfl (by decide) _ 0 [] hown ⟨b, off, none⟩ pl.length c (pl.map (Value.int .u32)) (by simp) (by
      intro j u hu
      have hj : j < pl.length := by have := (List.getElem?_eq_some_iff.1 hu).1; simpa using this
      have e := hc j hj
      rw [show (⟨b, off, none⟩ : Addr).add j = ⟨b, off + j, none⟩ by rw [Addr.add_lit], e]
      simpa [List.getD, hj] using hu) (by
      intro u hu
      obtain ⟨x, _, rfl⟩ := List.mem_map.1 hu
      rfl) (by unfold maxLen; omega) (by omega) (by omega)
    exact ⟨v', w', h1, by rw [Nat.zero_add] at h2; exact h2, h3⟩
  · obtain ⟨v', w', h1, h2, h3, _, _⟩ := run_append_own_at (P := Try.prog) w g 34 ty 33 i0 _ 1 4 Try.underlying34 hi hz0 hz1 hz2 rfl (by decide) _ 0 [] hown a 0 c [] rfl (fun j u hu => by simp at hu) (fun u hu => by simp at hu) (by unfold maxLen; omega) (by omega) (by omega)
    exact ⟨v', w', h1, h2, h3⟩
/-- the same, as a step of a region that draws -/
theorem step_append_u32 {ops : Array Oper} {o : Oper} {a : Act} {w : World} {K : Act → World → Prop} {Q : Exit → Act → World → Prop} {E : Prop}
    (hg : o.guard = none) (s x : Operand) (hop : o.op = Op.call { callee := Callee.builtin Builtin.append, args := #[s, x], argTypes := #[34, 34] })
    (g : Nat) (pv : Value) (pl : List Int) (hs : a.eval s = .slice (some ⟨g, 0, none⟩) 0 0) (hx : a.eval x = pv) (hb : w.heap[g]? = some (.cells #[] 33 (0, 0))) (hp : ShowsA w .u32 pv pl) (hf : pl.length ≤ 8)
    (hK : ∀ v' w', OwnN w' g 33 .u32 v' pl → w.grownBy w' (some g) → K (a.put o.dst v') w') :
    if Region.wanted o (yielded ops a.tmps) = true then Oper.wp Try.prog o a w K Q else E := by
  obtain ⟨v', w', hr, ho, hgr⟩ := append_u32 w o.type g pv pl hb hp hf
  exact step_append_eq hg s x _ _ hop _ _ hs hx hr (hK v' w' ho hgr)
set_option maxHeartbeats 1600000 in
set_option maxRecDepth 100000 in
theorem lawOwn (id mode rating since : Int) (pv : Value) (pl : List Int) (w : World) (hs : ShowsA w .u32 pv pl) (hf : pl.length ≤ 8) :
    Calls Try.prog 11 #[.agg #[.int .u32 id, .int .i64 mode, pv, .int .i64 rating, .int .i64 since]] w fun e w' => Copied w w' pl e id mode rating since := by
  obtain ⟨A, c, rfl⟩ := hs.form
  have HS := Lib.hid hs
  clear hs
  obtain ⟨n, hn⟩ : ∃ n, n = pl.length := ⟨_, rfl⟩
  rw [← hn] at hf ⊢ HS
  have HN := Lib.hid hn
  clear hn
  obtain ⟨W3, hW3⟩ : ∃ W3, W3 = ((w.alloc (.cells #[.int .u32 id, .int .i64 mode, .slice A n c, .int .i64 rating, .int .i64 since] 36)).alloc (.cells #[.int .u32 0, .int .i64 0, .slice none 0 0, .int .i64 0, .int .i64 0] 39)).alloc (.cells #[] 33) := ⟨_, rfl⟩
  have hB3 : Below w.heap.size w W3 := by rw [hW3]; exact (below_two w _ _).alloc (by simp; omega) _
  have HB3 : Hid (∀ W : World, W.heap = W3.heap → W.heap[w.heap.size + 1 + 1]? = some (.cells #[] 33 (0, 0))) := by
    intro W hW
    rw [hW, hW3]
    have := heap_alloc_new ((w.alloc (.cells #[.int .u32 id, .int .i64 mode, .slice A n c, .int .i64 rating, .int .i64 since] 36)).alloc (.cells #[.int .u32 0, .int .i64 0, .slice none 0 0, .int .i64 0, .int .i64 0] 39)) (.cells #[] 33)
    simpa using this
  have HS3 : Hid (ShowsA W3.drew .u32 (.slice A n c) pl) := by exact (HS.out.below hB3).below ((Below.refl _ _).drew)
  have HR3 : Hid (Blk W3.drew (w.heap.size + 1) #[.int .u32 0, .int .i64 0, .slice none 0 0, .int .i64 0, .int .i64 0] 39) := by
    have h := (two_blk w #[.int .u32 id, .int .i64 mode, .slice A n c, .int .i64 rating, .int .i64 since] #[.int .u32 0, .int .i64 0, .slice none 0 0, .int .i64 0, .int .i64 0] 36 39).2
    have h2 := h.below ((Below.refl _ _).alloc (Nat.le_refl _) (.cells #[] 33))
    rw [hW3]; exact h2.below ((Below.refl _ _).drew)
  have HP3 : Hid (Blk W3.drew w.heap.size #[.int .u32 id, .int .i64 mode, .slice A n c, .int .i64 rating, .int .i64 since] 36) := by
    have h := (two_blk w #[.int .u32 id, .int .i64 mode, .slice A n c, .int .i64 rating, .int .i64 since] #[.int .u32 0, .int .i64 0, .slice none 0 0, .int .i64 0, .int .i64 0] 36 39).1
    have h2 := h.below ((Below.refl _ _).alloc (Nat.le_refl _) (.cells #[] 33))
    rw [hW3]; exact h2.below ((Below.refl _ _).drew)
  have HB3B := Lib.hid hB3.drew
  rw [hW3] at HB3 HS3 HR3 HP3 HB3B
  clear hB3 hW3
  go_enter Try.func11, Try.ntmps11
  go_wp2_with fail
  go_region_held3 (fun w' => w'.cell? ⟨w.heap.size, 0, none⟩ = some (.int .u32 id) ∧ w'.cell? ⟨w.heap.size, 1, none⟩ = some (.int .i64 mode) ∧ w'.cell? ⟨w.heap.size, 2, none⟩ = some (.slice A n c) ∧ w'.cell? ⟨w.heap.size, 3, none⟩ = some (.int .i64 rating) ∧ w'.cell? ⟨w.heap.size, 4, none⟩ = some (.int .i64 since))
    (first | go_keep | exact ⟨cP 0, cP 1, cP 2, cP 3, cP 4⟩)
    (first | (refine step_append_u32 rfl (.tmp 7) (.tmp 9) rfl (w.heap.size + 1 + 1) (.slice A n c) pl (by simp [Act.eval, Act.put]) (by simp [Act.eval, Act.put]) (HB3.out _ rfl) HS3.out (by rw [← HN.out]; exact hf) ?_; intro v9 w9 hown hgr; have hbR := (HR3.out).kept (kept_of_grown hgr) (fun e => by have := Option.some.inj e; omega); obtain ⟨cR, fR⟩ := blk_rule hbR; obtain ⟨cP, fP⟩ := blk_rule ((HP3.out).kept (kept_of_grown hgr) (fun e => by have := Option.some.inj e; omega)); have lR := hbR.lt; obtain ⟨A9, c9, rfl, _⟩ := hown.shows.form; have HOWN := Lib.hid hown; have HGR := Lib.hid hgr; clear hown hgr hbR))
  go_wp2
  refine bodyPost_ret (v := .agg #[.int .u32 id, .int .i64 mode, .slice A9 pl.length c9, .int .i64 rating, .int .i64 since]) (by simp [results, Try.results11, go_sem, cR]) rfl ?_
  have hn : ∀ k, (Value.slice A9 pl.length c9).ownBlock = some k → k ≠ w.heap.size + 1 := fun k hk => by
    obtain ⟨_, _, h⟩ := own_blk HOWN.out hk
    omega
  have hb : Below w.heap.size w w9 := HB3B.out.grown HGR.out HB3B.out.size (fun k e => by have := Option.some.inj e; omega)
  refine ⟨_, rfl, ?_, ?_⟩
  · exact own_setCell (own_setCell (own_setCell (own_setCell (own_setCell (own_mono HOWN.out (by omega)) hn _) hn _) hn _) hn _) hn _
  · exact ((((hb.setCell (by simp) _).setCell (by simp) _).setCell (by simp) _).setCell (by simp) _).setCell (by simp) _
end Go.Proofs.Ytlkpmlcmgggifaa
