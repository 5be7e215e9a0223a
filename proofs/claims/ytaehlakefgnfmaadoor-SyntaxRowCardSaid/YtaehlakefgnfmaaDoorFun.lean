/-
  DERIVED. THE WALKS of function and its closure (printed by gen_fun.py).
-/
import Derived.Test.YtaehlakefgnfmaaDoorBlock
namespace Go.Proofs.YtaehlakefgnfmaaDoor
set_option linter.unusedSimpArgs false
set_option linter.unusedVariables false
set_option maxRecDepth 100000
open Go.RowKit

theorem Tryd.infoParam : (Tryd.prog.info? 64).map (fun i => (i.zero, i.size, i.bytes)) = some (some (.agg #[.string ⟨#[]⟩, .int .i64 0]), 2, 24) := by kernel_rfl
/-- The box that holds the reader; the function's block. -/
def SF (b br bF : Nat) (vs : List Value) (w' : World) : Prop := SP b br w' ∧ Blk w' bF 47 vs
theorem SF.ext {b br bF : Nat} {vs : List Value} {w w' : World} (h : SF b br bF vs w) (e : Ext w w') : SF b br bF vs w' := ⟨h.1.ext e, h.2.ext e⟩
theorem SF.keepS {b br bF : Nat} {vs : List Value} {w w' : World} {S : List Nat} (h : SF b br bF vs w) (k : Keep S w w') (hn : b ∉ S) (hn' : bF ∉ S) : SF b br bF vs w' := ⟨⟨k.cellV hn h.1.1, Nat.lt_of_lt_of_le h.1.2 k.size⟩, h.2.keep k hn'⟩
def ParPost (w : World) (br n bF base : Nat) (c0 c2 c3 c4 sv : Value) (acc : List Pa) (R : Res Pa) (e : Ending) (w' : World) : Prop :=
  match R with
  | .ok x r => e = .returned (.tuple #[]) ∧ (∃ sv', Blk w' bF 47 [c0, sv', c2, c3, c4] ∧ OwnX paEnc 64 w' base sv' (acc ++ [x])) ∧ RdAt w' br n r ∧ Keep ([br, bF] ++ ownL sv) w w'
  | .err c r => e = .panicked [faultV c (placeOf n r)] ∧ Keep [br] w w'
set_option maxHeartbeats 8000000 in
theorem par_any (w : World) (br n : Nat) (ts : List Tok) (b0 bF base : Nat) (c0 c2 c3 c4 sv : Value) (acc : List Pa) (hb0 : Blk w b0 57 [.pointer (some ⟨br, 0, none⟩)]) (hbF : Blk w bF 47 [c0, sv, c2, c3, c4])
    (hown : OwnX paEnc 64 w base sv acc) (hr : RdAt w br n ts) (l0 : b0 < base) (lF : bF < base) (lb : base ≤ w.heap.size) (n0 : br < b0) (nF : br < bF) (hacc : acc.length ≤ 100000) :
    Calls Tryd.prog 29 #[.pointer (some ⟨b0, 0, none⟩), .pointer (some ⟨bF, 0, none⟩)] w (ParPost w br n bF base c0 c2 c3 c4 sv acc (paramS ts)) := by
  obtain ⟨i0, hi0, hz0, hz1, hz2⟩ := info_parts Tryd.infoParam
  obtain ⟨va, vc, rfl⟩ := hown.form
  have HO := hid hown
  have HR := hid (show paramS ts = name ts fun nm r => must [58] r fun r => (typS r).bind fun t r => .ok ⟨nm, t⟩ r from rfl)
  have g0 := hb0.cell 0
  simp only [List.getElem?_cons_zero] at g0
  clear hown
  generalize paramS ts = R at HR ⊢
  go_enter Tryd.func29, Tryd.ntmps29
  go_wp2_with fail
  cases h1 : isName ts with
  | false =>
    have H1 := hid h1
    have HR1 := hid (show R = .err 41 ts from HR.out.trans (name_f h1))
    clear h1
    (with_reducible refine (name_no _ br n ts hr H1.out).mono ?_)
    rintro e1 w1 ⟨rfl, k1⟩
    go_wp2_with fail
    refine ⟨rfl, ?_⟩
    rw [HR1.out]
    exact ⟨rfl, k1⟩
  | true =>
    have H1 := hid h1
    have HR1 := hid (HR.out.trans (name_t h1))
    clear h1
    (with_reducible refine (name_yes _ br n ts hr H1.out).mono ?_)
    rintro e1 w1 ⟨rfl, r1, k1⟩
    have G1 := hb0.keep k1 (by simp; omega)
    have g1 := G1.cell 0
    simp only [List.getElem?_cons_zero] at g1
    clear g0
    go_wp2_with fail
    cases h2 : isSign [58] ts.tail with
    | false =>
      have H2 := hid h2
      have HR2 := hid (show R = .err 41 ts.tail from HR1.out.trans (must_f h2))
      clear h2
      (with_reducible refine (mustN _ br n ts.tail r1 _ H2.out _ (by simp)).mono ?_)
      rintro e1 w2 ⟨rfl, k2⟩
      go_wp2_with fail
      refine ⟨rfl, ?_⟩
      rw [HR2.out]
      exact ⟨rfl, k1.trans' k2⟩
    | true =>
      have H2 := hid h2
      have HR2 := hid (HR1.out.trans (must_t h2))
      clear h2
      (with_reducible refine (mustY _ br n ts.tail r1 _ H2.out _ (by simp)).mono ?_)
      rintro e1 w2 ⟨rfl, r2, k2⟩
      have k12 := k1.trans' k2
      have G2 := hb0.keep k12 (by simp; omega)
      have GF := hbF.keep k12 (by simp; omega)
      clear g1
      go_wp2_with fail
      have hS : SF b0 br bF [c0, .slice va acc.length vc, c2, c3, c4] w2.drew := ⟨⟨G2.cell 0, G2.lt⟩, GF⟩
      have lF2 := GF.lt
      refine phase_begin (SF b0 br bF [c0, .slice va acc.length vc, c2, c3, c4]) 9 (by kernel_rfl) ?_
      refine phase_take (i := 0) (v := .pointer (some ⟨bF, 1, none⟩)) rfl (by kernel_rfl) (by omega) (by kernel_rfl) (by kernel_rfl) (by kernel_rfl) (fun _ _ _ h => h) ⟨by rfl, ?_⟩ hS ?_
      · intro wS hSw
        obtain ⟨⟨s1, s2⟩, s3⟩ := hSw
        obtain ⟨s30, s31, s32, s33, s34, s3f⟩ := s3.five
        go_simp
      simp only [Act.put, List.getElem_toArray, List.getElem_cons_succ, List.getElem_cons_zero, List.setIfInBounds_toArray, List.set_cons_zero, List.set_cons_succ]
      refine phase_take (i := 1) (v := .slice va acc.length vc) rfl (by kernel_rfl) (by omega) (by kernel_rfl) (by kernel_rfl) (by kernel_rfl) (fun _ _ _ h => h) ⟨by rfl, ?_⟩ hS ?_
      · intro wS hSw
        obtain ⟨⟨s1, s2⟩, s3⟩ := hSw
        obtain ⟨s30, s31, s32, s33, s34, s3f⟩ := s3.five
        go_simp
      simp only [Act.put, List.getElem_toArray, List.getElem_cons_succ, List.getElem_cons_zero, List.setIfInBounds_toArray, List.set_cons_zero, List.set_cons_succ]
      refine phase_take (i := 2) (v := .string ⟨(headText ts).toArray⟩) rfl (by kernel_rfl) (by omega) (by kernel_rfl) (by kernel_rfl) (by kernel_rfl) (fun _ _ _ h => h) ⟨by rfl, ?_⟩ hS ?_
      · intro wS hSw
        obtain ⟨⟨s1, s2⟩, s3⟩ := hSw
        obtain ⟨s30, s31, s32, s33, s34, s3f⟩ := s3.five
        go_simp
      simp only [Act.put, List.getElem_toArray, List.getElem_cons_succ, List.getElem_cons_zero, List.setIfInBounds_toArray, List.set_cons_zero, List.set_cons_succ]
      refine phase_take (i := 3) (v := .pointer (some ⟨br, 0, none⟩)) rfl (by kernel_rfl) (by omega) (by kernel_rfl) (by kernel_rfl) (by kernel_rfl) (fun _ _ _ h => h) ⟨by rfl, ?_⟩ hS ?_
      · intro wS hSw
        obtain ⟨⟨s1, s2⟩, s3⟩ := hSw
        obtain ⟨s30, s31, s32, s33, s34, s3f⟩ := s3.five
        go_simp
      simp only [Act.put, List.getElem_toArray, List.getElem_cons_succ, List.getElem_cons_zero, List.setIfInBounds_toArray, List.set_cons_zero, List.set_cons_succ]
      refine phase_one (i := 4) (by kernel_rfl) (by omega) rfl (by rfl) (fun K hK => ?_)
      go_simp
      refine (typ_any _ br n _ (r2.ext (Ext.refl _).drew)).mono ?_
      cases h3 : typS ts.tail.tail with
      | err c r =>
        have HR3 := hid (show R = .err c r from HR2.out.trans (bind_f h3))
        clear h3
        rintro e1 w3 ⟨rfl, k3⟩
        go_wp2_with fail
        refine ⟨rfl, ?_⟩
        rw [HR3.out]
        exact ⟨rfl, k12.drew.trans' k3⟩
      | ok ty r =>
        have HR3 := hid (show R = .ok ⟨headText ts, ty⟩ r from HR2.out.trans (bind_t h3))
        clear h3
        rintro e1 w3 ⟨v, rfl, hv, r3, k3⟩
        have hv' : v = .int .i64 ty := hv
        subst hv'
        have k13 := k12.drew.trans' k3
        have lw3 : w.heap.size ≤ w3.heap.size := k13.size
        have hS3 := hS.keepS k3 (by simp; omega) (by simp; omega)
        refine hK _ _ ⟨hS3, ?_⟩
        clear hK K
        try simp only [Act.put, List.getElem_toArray, List.getElem_cons_succ, List.getElem_cons_zero, List.setIfInBounds_toArray, List.set_cons_zero, List.set_cons_succ]
        refine phase_one (i := 5) (by kernel_rfl) (by omega) rfl (by rfl) (fun K hK => ?_)
        go_simp
        refine hK _ _ ⟨hS3, ?_⟩
        clear hK K
        try simp only [Act.put, List.getElem_toArray, List.getElem_cons_succ, List.getElem_cons_zero, List.setIfInBounds_toArray, List.set_cons_zero, List.set_cons_succ]
        refine phase_one (i := 6) (by kernel_rfl) (by omega) rfl (by rfl) (fun K hK => ?_)
        go_simp
        have hS4 := hS3.ext ((Ext.refl w3).alloc (.cells #[.string ⟨(headText ts).toArray⟩, .int .i64 ty] 64))
        refine hK _ _ ⟨hS4, ?_⟩
        clear hK K
        try simp only [Act.put, List.getElem_toArray, List.getElem_cons_succ, List.getElem_cons_zero, List.setIfInBounds_toArray, List.set_cons_zero, List.set_cons_succ]
        obtain ⟨ks, hrow, hall⟩ := (HO.out.keep k13 (by simp; omega)).keep (Keep.ofExt ((Ext.refl w3).alloc (.cells #[.string ⟨(headText ts).toArray⟩, .int .i64 ty] 64)) : Keep [] _ _) (by simp)
        have HALL := hid hall
        clear hall
        refine phase_one (i := 7) (by kernel_rfl) (by omega) rfl (by rfl) (fun K hK => ?_)
        refine wp_append_lies _ (.tmp 9) (.tmp 14) 44 (by rfl) base 64 i0 (.agg #[.string ⟨#[]⟩, .int .i64 0]) 2 24 Tryd.underlying44 hi0 hz0 hz1 hz2 rfl (by omega) (.slice va acc.length vc) acc.length ks (by rfl) hrow ⟨w3.heap.size, 0, none⟩ 1 1
          [.string ⟨(headText ts).toArray⟩, .int .i64 ty] (by rfl) (by rfl) (news_cells _ _ _ _ rfl) (by simp [Value.oneCell']) (by omega) (by simp only [maxLen]; omega) (by omega) (by simp; omega) (w3.heap.size + 1) (by simp) (fun g cap w5 hown5 hgr hat hlt => ?_)
        have lg : base ≤ g := (hown5.lt g rfl).1
        have lown : ∀ q ∈ ownL (.slice va acc.length vc), base ≤ q ∧ q < w.heap.size := fun q hq => by
          obtain ⟨ks', hrow', _⟩ := HO.out
          exact hrow'.lt q (mem_ownL.1 hq)
        have kk := Keep.grownBy hgr (ownL (.slice va acc.length vc)) (fun k hk => mem_ownL.2 hk)
        have hS5 := hS4.keepS kk (fun hm => by have := (lown _ hm).1; omega) (fun hm => by have := (lown _ hm).1; omega)
        refine hK _ _ ⟨hS5, ?_⟩
        clear hK K
        try simp only [Act.put, List.getElem_toArray, List.getElem_cons_succ, List.getElem_cons_zero, List.setIfInBounds_toArray, List.set_cons_zero, List.set_cons_succ]
        obtain ⟨e0, e1', e2, e3, e4, ef⟩ := hS5.2.five
        refine phase_take (i := 8) (v := .pointer (some ⟨bF, 1, none⟩)) rfl (by kernel_rfl) (by omega) (by kernel_rfl) (by kernel_rfl) (by kernel_rfl) (fun _ _ _ h => h) ⟨by rfl, ?_⟩ hS5 ?_
        · intro wS hSw
          obtain ⟨⟨s1, s2⟩, s3⟩ := hSw
          obtain ⟨s30, s31, s32, s33, s34, s3f⟩ := s3.five
          go_simp
        simp only [Act.put, List.getElem_toArray, List.getElem_cons_succ, List.getElem_cons_zero, List.setIfInBounds_toArray, List.set_cons_zero, List.set_cons_succ]
        refine phase_late (i := 9) (by kernel_rfl) (by omega) rfl (by rfl) (fun K hK => ?_)
        go_simp
        refine hK _ _ ?_
        clear hK K
        try simp only [Act.put, List.getElem_toArray, List.getElem_cons_succ, List.getElem_cons_zero, List.setIfInBounds_toArray, List.set_cons_zero, List.set_cons_succ]
        refine wpAny_done (by kernel_rfl) ?_ _
        go_wp2_with fail
        go_end0
        rw [HR3.out]
        have hsn := OwnX.snoc (E := paEnc) (T := 64) (a := ⟨headText ts, ty⟩) HALL.out (show _ = _ from rfl) hown5 hgr (fun q hq => by
          simp only [Value.ownBlock, Option.some.injEq] at hq
          subst hq
          rcases hat with hat | hat
          · exact .inl hat
          · right; simp; omega)
        have KS := Keep.set w5 ⟨bF, 1, none⟩ (.slice (some ⟨g, 0, none⟩) (acc.length + 1) cap)
        have r4 := (r3.ext ((Ext.refl w3).alloc (.cells #[.string ⟨(headText ts).toArray⟩, .int .i64 ty] 64))).keep kk (fun q hq => by have := (lown q hq).1; omega)
        refine ⟨rfl, ⟨_, hS5.2.set 1 _, hsn.keep KS (by simp; omega)⟩, r4.keep KS (by simp; omega), ?_⟩
        refine (((k13.alloc _).mono (T := [br, bF] ++ ownL (.slice va acc.length vc)) (by intro y hy; left; simp at hy ⊢; exact .inl hy)).trans (kk.mono (T := ownL (.slice va acc.length vc)) (fun y hy => .inl hy)) (fun y hy => .inl (by simp only [List.mem_append]; exact .inr hy))).trans KS (by simp)
/-- The closure reads one parameter more. -/
structure FnK (w : World) (br : Nat) (wr : World) : Prop where
  b1 : Blk wr w.heap.size 57 [.pointer (some ⟨br, 0, none⟩)]
  b2 : Blk wr (w.heap.size + 1) 47 [.string ⟨#[]⟩, .slice none 0 0, .int .i64 0, .slice none 0 0, .int .i64 0]
  keep : Keep [br] w wr
  size : w.heap.size + 3 ≤ wr.heap.size
def FnI (w : World) (c0 c2 c3 c4 : Value) (wr : World) (acc : List Pa) : Prop :=
  ∃ sv, Blk wr (w.heap.size + 1 + 1) 47 [c0, sv, c2, c3, c4] ∧ OwnX paEnc 64 wr (w.heap.size + 3) sv acc
theorem fn_reads (w : World) (br n : Nat) (lr : br < w.heap.size) (c0 c2 c3 c4 : Value) :
    Reads paramS 29 #[.pointer (some ⟨w.heap.size, 0, none⟩), .pointer (some ⟨w.heap.size + 1 + 1, 0, none⟩)] br n (FnK w br) (FnI w c0 c2 c3 c4) where
  enters := fun _ => by simp [go_sem]
  keeps := fun h k => ⟨h.b1.keep k (by simp; omega), h.b2.keep k (by simp; omega), h.keep.trans' k, Nat.le_trans h.size k.size⟩
  stays := fun ⟨sv, h1, h2⟩ k => ⟨sv, h1.keep k (by simp; omega), h2.keep k (by simp; omega)⟩
  step := fun wr ts acc hr hw hK ⟨sv, h1, h2⟩ hacc => by
    have lown : ∀ k ∈ ownL sv, w.heap.size + 3 ≤ k := fun k hk => by
      obtain ⟨ks, hrow, _⟩ := h2
      exact (hrow.lt k (mem_ownL.1 hk)).1
    refine (par_any wr br n ts w.heap.size (w.heap.size + 1 + 1) (w.heap.size + 3) c0 c2 c3 c4 sv acc hK.b1 h1 h2 hr (by omega) (by omega) hK.size (by omega) (by omega) (by omega)).mono ?_
    intro e w' h
    cases hp : paramS ts with
    | ok x r =>
      rw [hp] at h
      obtain ⟨rfl, h3, r3, k3⟩ := h
      have hno : ∀ b, br < b → b < w.heap.size + 1 + 1 → b ∉ [br, w.heap.size + 1 + 1] ++ ownL sv := by
        intro b g1 g2 hm
        simp only [List.mem_append, List.mem_cons, List.not_mem_nil, or_false] at hm
        rcases hm with (hm | hm) | hm
        · omega
        · omega
        · have := lown b hm; omega
      refine ⟨rfl, h3, r3, hK.b1.keep k3 (hno _ (by omega) (by omega)), hK.b2.keep k3 (hno _ (by omega) (by omega)), hK.keep.trans k3 ?_, Nat.le_trans hK.size k3.size⟩
      intro x hx
      simp only [List.mem_append, List.mem_cons, List.not_mem_nil, or_false] at hx ⊢
      rcases hx with (hx | hx) | hx
      · exact .inl hx
      · right; omega
      · right; have := lown x hx; omega
    | err c r =>
      rw [hp] at h
      obtain ⟨rfl, k3⟩ := h
      exact ⟨rfl, hK.b1.keep k3 (by simp; omega), hK.b2.keep k3 (by simp; omega), hK.keep.trans' k3, Nat.le_trans hK.size k3.size⟩
end Go.Proofs.YtaehlakefgnfmaaDoor
