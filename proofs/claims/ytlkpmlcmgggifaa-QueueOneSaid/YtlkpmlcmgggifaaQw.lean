/- The document's rack: Put. -/
import Derived.Test.YtlkpmlcmgggifaaQv
set_option linter.unusedVariables false
set_option linter.unusedSimpArgs false
namespace Go.Proofs.Ytlkpmlcmgggifaa
open Go.RowKit
theorem wpList_append_id {ops : Array Oper} {rest : List Oper} {o : Oper} {a : Act} {w : World} {Q : Exit → Act → World → Prop} (hgd : o.guard = none) (s x : Operand)
    (hop : o.op = Op.call { callee := Callee.builtin Builtin.append, args := #[s, x], argTypes := #[41, 41] }) (base : Nat) (A : Option Addr) (n c : Nat) (xs : List Int) (y : Int) (b : Nat)
    (hs : a.eval s = .slice A n c) (hx : a.eval x = .slice (some ⟨b, 0, none⟩) 1 1) (ho : OwnR w base (.slice A n c) xs) (hn : n = xs.length) (hb : Blk w b #[.int .u32 y, .int .i64 0] 119) (hm : xs.length ≤ 1000) (hbase : base ≤ w.heap.size)
    (hK : ∀ g cap w', OwnR w' base (.slice (some ⟨g, 0, none⟩) (n + 1) cap) (xs ++ [y]) → w.grownBy w' (Value.slice A n c).ownBlock → g < w'.heap.size → wpList Try.prog ops Q rest (a.put o.dst (.slice (some ⟨g, 0, none⟩) (n + 1) cap)) w') :
    wpList Try.prog ops Q (o :: rest) a w := by
  obtain ⟨i0, hi, hz0, hz1, hz2⟩ := info_parts info119
  subst hn
  refine wpList_append_lies w hgd s x _ hop base 119 i0 _ 2 16 Try.underlying41 hi hz0 hz1 hz2 rfl (by decide) (.slice A xs.length c) xs.length (xs.flatMap idCs) hs ho ⟨b, 0, none⟩ 1 1 [.int .u32 y, .int .i64 0] hx rfl (World.news_of_block (cs := #[.int .u32 y, .int .i64 0]) (t := 119) (fr := (0, 0)) hb) (by simp [Value.oneCell']) (by decide) (by unfold maxLen; omega) (by omega) hbase _ rfl ?_
  intro g cap w' h1 h2 h3 h4
  refine hK g cap w' ?_ h2 h4
  have e : (xs ++ [y]).flatMap idCs = xs.flatMap idCs ++ [.int .u32 y, .int .i64 0] := by rw [List.flatMap_append]; rfl
  unfold OwnR
  rw [e, List.length_append]
  exact h1
def PutR (w w' : World) (most : Int) (xs : List Int) (e : Ending) : Prop := ∃ v', e = .returned (.tuple #[.agg #[v', .int .i64 most], .int .i64 0]) ∧ OwnR w' w.heap.size v' xs ∧ Below w.heap.size w w'
set_option maxHeartbeats 3200000 in
set_option maxRecDepth 100000 in
/-- Put, where the id does not stand. -/
theorem ref_put (v : Value) (xs : List Int) (x most : Int) (base : Nat) (w : World) (ho : OwnR w base v xs) (hm : xs.length ≤ 900) (hx : x ∉ xs) (hr : rightB x = true) (hroom : (xs.length : Int) < most) :
    Calls Try.prog 13 #[.agg #[v, .int .i64 most], .int .u32 x, .int .i64 0] w fun e w' => PutR w w' most (xs ++ [x]) e := by
  obtain ⟨A, c, rfl⟩ := ho.form
  have hnot : ∀ (x : Bool) (w : World), (Op.unary .not (.bool x)).run Try.prog w = .ok (.bool (!x)) w := fun _ _ => rfl
  obtain ⟨n, hn⟩ : ∃ n, n = xs.length := ⟨_, rfl⟩
  have HIX : Hid (idxOf x xs 0 = -1) := idxOf_miss x xs 0 (fun j hj e => hx (by rw [e]; exact getD_mem _ _ _ hj))
  obtain ⟨bP, bR⟩ := two_blk w #[.slice A xs.length c, .int .i64 most] #[.slice none 0 0, .int .i64 0] 43 43
  have HB0 := Lib.hid (below_two w (.cells #[.slice A xs.length c, .int .i64 most] 43) (.cells #[.slice none 0 0, .int .i64 0] 43))
  have HO0 : Hid (OwnR ((w.alloc (.cells #[.slice A xs.length c, .int .i64 most] 43)).alloc (.cells #[.slice none 0 0, .int .i64 0] 43)) base (.slice A xs.length c) xs) := own_below ho HB0.out
  have HP0 := Lib.hid bP
  have HR0 := Lib.hid bR
  have HR := Lib.hid hr
  have HX := Lib.hid hx
  have HM := Lib.hid hm
  rw [← hn] at HB0 HO0 HP0 HR0 hroom ⊢
  have HN := Lib.hid hn
  clear bP bR hr hx hm ho hn
  go_enter Try.func13, Try.ntmps13
  go_wp2_with (first
    | (go_at_call 57; refine (ref_right x _ HR.out).mono ?_; rintro e w' ⟨rfl, rfl⟩)
    | (go_at_call 58; refine (ref_find _ xs x most base _ HO0.out (by have := HM.out; omega)).mono ?_; rintro e w1 ⟨rfl, hb1⟩; rw [HIX.out]; have HB1 := Lib.hid (HB0.out.trans (hb1.mono HB0.out.size)); have HP1 := Lib.hid (HP0.out.below hb1); have HR1 := Lib.hid (HR0.out.below hb1); have HO1 : Hid (OwnR w1 base (.slice A n c) xs) := own_below HO0.out hb1; obtain ⟨c1, f1⟩ := blk_rule HP1.out; have l1 := HP1.out.lt; clear hb1)
    | (go_at_call 59; refine (ref_drop _ xs x most base _ HO1.out (by have := HM.out; omega) HX.out).mono ?_; rintro e w2 ⟨v2, rfl, ho2, hb2⟩; obtain ⟨A2, c2, rfl⟩ := OwnR.form ho2; have HB2 := Lib.hid (HB1.out.trans (hb2.mono HB1.out.size)); have HR2 := Lib.hid (HR1.out.below hb2); have l2 := HR2.out.lt; have hza := two_blk w2 #[.slice A2 xs.length c2, .int .i64 most] #[.int .u32 x, .int .i64 0] 43 119; have HZ4 := Lib.hid hza.1; have HY4 := Lib.hid hza.2; have hb4 := below_two w2 (.cells #[.slice A2 xs.length c2, .int .i64 most] 43) (.cells #[.int .u32 x, .int .i64 0] 119); have HR4 := Lib.hid (HR2.out.below hb4); have HB4 := Lib.hid (HB2.out.trans (hb4.mono HB2.out.size)); have HO4 : Hid (OwnR ((w2.alloc (.cells #[.slice A2 xs.length c2, .int .i64 most] 43)).alloc (.cells #[.int .u32 x, .int .i64 0] 119)) w.heap.size (.slice A2 xs.length c2) xs) := own_below (own_mono ho2 HB1.out.size) hb4; clear hza hb4 hb2 ho2)
    | (at_builtin; refine wpList_append_id rfl (.tmp 30) (.tmp 34) rfl w.heap.size A2 xs.length c2 xs x (w2.heap.size + 1) rfl rfl HO4.out rfl HY4.out (by have := HM.out; omega) HB4.out.size ?_; intro g cap w9 ho9 hgr hlt9; have hk9 := kept_of_grown hgr; have hZ9 := HZ4.out.kept hk9 (own_apart HO4.out HZ4.out); have hR9 := HR4.out.kept hk9 (own_apart HO4.out HR4.out); obtain ⟨cZ, fZ⟩ := blk_rule hZ9; obtain ⟨cR, fR⟩ := blk_rule hR9; have lZ := hZ9.lt; have lR := hR9.lt; have HW9 := Lib.hid ho9; have HB9 := Lib.hid (HB4.out.grown hgr HB4.out.size (fun j e => by obtain ⟨_, _, h⟩ := own_blk HO4.out e; exact h)); have HZ9 := Lib.hid hZ9; have HR9 := Lib.hid hR9; have HSZ := Lib.hid HB2.out.size; clear ho9 hgr hk9 hZ9 hR9))
  refine bodyPost_ret (v := .tuple #[.agg #[.slice (some ⟨g, 0, none⟩) (xs.length + 1) cap, .int .i64 most], .int .i64 0]) (by simp [results, Try.results13, go_sem, cR]) rfl ?_
  have hn1 : ∀ j, (Value.slice (some ⟨g, 0, none⟩) (xs.length + 1) cap).ownBlock = some j → j ≠ w2.heap.size := fun j hj => own_ne HW9.out HZ9.out (by decide) j hj
  have hn2 : ∀ j, (Value.slice (some ⟨g, 0, none⟩) (xs.length + 1) cap).ownBlock = some j → j ≠ w.heap.size + 1 := fun j hj => own_ne HW9.out HR9.out (by decide) j hj
  have hsz := HSZ.out
  refine ⟨_, rfl, ?_, ?_⟩
  · exact own_setCell (own_setCell (own_setCell HW9.out hn1 _) hn2 _) hn2 _
  · exact ((HB9.out.setCell (by simp; omega) _).setCell (by simp) _).setCell (by simp) _
end Go.Proofs.Ytlkpmlcmgggifaa
