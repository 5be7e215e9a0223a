/-
  DERIVED. THE WALK of block; blocks and statements so deep, all of them.
-/
import Derived.Test.YtaehlakefgnfmaaGreatDoorStmt
namespace Go.Proofs.YtaehlakefgnfmaaGreatDoor
set_option linter.unusedSimpArgs false
set_option linter.unusedVariables false
set_option maxRecDepth 100000
open Go.RowKit

theorem Tryz.infoStmt : (Tryz.prog.info? 78).map (fun i => (i.zero, i.size, i.bytes)) = some (some (.agg #[.int .i64 0, .string ⟨#[]⟩, .slice none 0 0, .slice none 0 0, .slice none 0 0, .int .i64 0]), 6, 104) := by kernel_rfl
theorem encS.form {B : Nat} {w : World} {x : St} {v : Value} (h : encS B w x v) : ∃ (op : Nat) (text : List UInt8) (ea : Option Addr) (en ec : Nat) (ba : Option Addr) (bn bc : Nat) (la : Option Addr) (ln lc at_ : Nat), v = .agg #[.int .i64 op, .string ⟨text.toArray⟩, .slice ea en ec, .slice ba bn bc, .slice la ln lc, .int .i64 at_] := by
  obtain ⟨vs, rfl, h2⟩ := h
  cases x
  simp only [StIs] at h2
  obtain ⟨ve, vb, vl, rfl, ⟨ea, ec, eks, rfl, _⟩, ⟨ba, bc, bks, rfl, _⟩, ⟨la, lc, lks, rfl, _⟩⟩ := h2
  exact ⟨_, _, _, _, _, _, _, _, _, _, _, _, rfl⟩
theorem encS.is {B : Nat} {w : World} {x : St} {l : List Value} (h : encS B w x (.agg l.toArray)) : StIs w (B ≤ ·) x l := by
  obtain ⟨vs, h1, h2⟩ := h
  have : l = vs := by simpa using h1
  rw [this]; exact h2
theorem OwnX.form {α : Type} {E : Enc α} {T : TypeId} {w : World} {base : Nat} {v : Value} {xs : List α} (h : OwnX E T w base v xs) : ∃ (a : Option Addr) (c : Nat), v = .slice a xs.length c := by
  obtain ⟨ks, hrow, _⟩ := h
  obtain ⟨a, c, rfl, _⟩ := owned_cells hrow
  exact ⟨a, c, rfl⟩
theorem blockGo_succ (s : Rd St) (f : Nat) (acc : List St) (ts : List Tok) : blockGo s (f + 1) acc ts = if isSign [125] ts then .ok acc ts.tail else (s ts).bind fun x r => blockGo s f (acc ++ [x]) r := rfl
def BlRel (w : World) (br n : Nat) (s : Rd St) (m : Nat) (R : Res (List St)) (k : Nat) (v : Value) (wr : World) : Prop :=
  ∃ acc us, OwnX stEnc 78 wr w.heap.size v acc ∧ RdAt wr br n us ∧ Wf us ∧ Keep [br] w wr ∧ acc.length + us.length ≤ m ∧ us.length < k ∧ R = blockGo s k acc us

set_option maxHeartbeats 4000000 in
theorem block_no (d : Nat) (s : Rd St) (ok : Bool) (w : World) (br n : Nat) (ts : List Tok) (hr : RdAt w br n ts) (h : isSign [123] ts = false) :
    Calls Tryz.prog 30 #[.pointer (some ⟨br, 0, none⟩), .int .i64 d] w (Ans w br n (encB w.heap.size) (blockS s ok ts)) := by
  have HR := hid (show blockS s ok ts = .err 41 ts by unfold blockS; rw [if_neg (by rw [h]; decide)])
  have H := hid h
  clear h
  generalize blockS s ok ts = R at HR ⊢
  go_enter Tryz.func30, Tryz.ntmps30
  go_wp2_with fail
  (with_reducible refine (at0_any _ br n ts hr _).mono ?_)
  rintro e1 w' ⟨rfl, rfl⟩
  rw [show isSign (ByteArray.mk #[123]).data.toList ts = false from H.out]
  go_wp2_with fail
  (with_reducible refine (mustN _ br n ts hr _ H.out _ (by simp)).mono ?_)
  rintro e1 w1 ⟨rfl, k1⟩
  go_wp2_with fail
  refine ⟨rfl, ?_⟩
  rw [HR.out]
  exact ⟨rfl, k1⟩
set_option maxHeartbeats 4000000 in
theorem block_deep (d : Nat) (hd : 32 < d) (s : Rd St) (w : World) (br n : Nat) (ts : List Tok) (hr : RdAt w br n ts) (h : isSign [123] ts = true) :
    Calls Tryz.prog 30 #[.pointer (some ⟨br, 0, none⟩), .int .i64 d] w (Ans w br n (encB w.heap.size) (blockS s false ts)) := by
  have HR := hid (show blockS s false ts = .err 42 ts by unfold blockS; rw [if_pos h, if_neg (by decide)])
  have H := hid h
  clear h
  generalize blockS s false ts = R at HR ⊢
  go_enter Tryz.func30, Tryz.ntmps30
  go_wp2_with fail
  (with_reducible refine (at0_any _ br n ts hr _).mono ?_)
  rintro e1 w' ⟨rfl, rfl⟩
  rw [show isSign (ByteArray.mk #[123]).data.toList ts = true from H.out]
  go_wp2_with fail
  (with_reducible refine (deep_no _ br n d ts hr hd).mono ?_)
  rintro e1 w1 ⟨rfl, rfl⟩
  go_wp2_with fail
  refine ⟨rfl, ?_⟩
  rw [HR.out]
  exact ⟨rfl, Keep.refl _ _⟩
set_option maxHeartbeats 4000000 in
theorem block_yes (d : Nat) (hd : d ≤ 32) (s : Rd St) (hS : StmtC d s) (hi : Inv St.size WFs s) (w : World) (br n : Nat) (ts : List Tok) (hr : RdAt w br n ts) (hw : Wf ts) (h : isSign [123] ts = true) :
    Calls Tryz.prog 30 #[.pointer (some ⟨br, 0, none⟩), .int .i64 d] w (Ans w br n (encB w.heap.size) (blockS s true ts)) := by
  obtain ⟨i0, hi0, hz0, hz1, hz2⟩ := info_parts Tryz.infoStmt
  have lr := hr.lt
  have hm := hr.len
  have hlen := isSign_len h
  have HR := hid (show blockS s true ts = blockGo s (ts.length + 1) [] ts.tail by unfold blockS; rw [if_pos h, if_pos rfl])
  have H := hid h
  have HS := hid hS
  have HI := hid hi
  clear h hS hi
  generalize blockS s true ts = R at HR ⊢
  go_enter Tryz.func30, Tryz.ntmps30
  go_wp2_with fail
  (with_reducible refine (at0_any _ br n ts hr _).mono ?_)
  rintro e1 w' ⟨rfl, rfl⟩
  rw [show isSign (ByteArray.mk #[123]).data.toList ts = true from H.out]
  go_wp2_with fail
  (with_reducible refine (deep_ok _ br d hd).mono ?_)
  rintro e1 w' ⟨rfl, rfl⟩
  go_wp2_with fail
  (with_reducible refine (mustY _ br n ts hr _ H.out _ (by simp)).mono ?_)
  rintro e1 w1 ⟨rfl, r1, k1⟩
  have HREL := hid (show BlRel w br n s 2048 R (ts.length + 1) (.slice none 0 0) w1 from ⟨[], ts.tail, OwnX.nil _ _ _ _, r1, hw.tail, k1, by simp; omega, by omega, HR.out⟩)
  go_wp2_with fail
  go_loopg [5] (ts.length + 1) (fun k v wr => BlRel w br n s 2048 R k v wr)
  case atStart => exact HREL.out
  case round =>
    obtain ⟨acc, us, hown, ru, hwu, ku, hl, hlt, hR⟩ := hrel
    obtain ⟨k, rfl⟩ : ∃ k, gk = k + 1 := ⟨gk - 1, by omega⟩
    obtain ⟨va, vc, rfl⟩ := hown.form
    have HO := hid hown
    clear HREL HR hown
    cases h2 : isSign [125] us with
    | true =>
      have H2 := hid h2
      have HR2 := hid (show R = .ok acc us.tail by rw [hR, blockGo_succ, if_pos h2])
      clear hR h2
      go_wp2_with fail
      (with_reducible refine (take_yes _ br n us ru _ H2.out).mono ?_)
      rintro e1 w2 ⟨rfl, r2, k2⟩
      go_wp2_with fail
      go_ret
      rw [HR2.out]
      exact ⟨_, rfl, (HO.out.keep k2 (by simp; omega)).row, r2, ku.trans' k2⟩
    | false =>
      have H2 := hid h2
      have HR2 := hid (show R = (s us).bind fun x r => blockGo s k (acc ++ [x]) r by rw [hR, blockGo_succ, if_neg (by rw [h2]; decide)])
      clear hR h2
      go_wp2_with fail
      (with_reducible refine (take_no _ br n us ru _ H2.out).mono ?_)
      rintro e1 w2 ⟨rfl, r2, k2⟩
      go_wp2_with fail
      refine (HS.out _ br n us r2 hwu).mono ?_
      cases h3 : s us with
      | err c r =>
        have HR3 := hid (show R = .err c r from HR2.out.trans (bind_f h3))
        clear h3
        rintro e1 w3 ⟨rfl, k3⟩
        go_wp2_with fail
        refine ⟨rfl, ?_⟩
        rw [HR3.out]
        exact ⟨rfl, (ku.trans' k2).trans' k3⟩
      | ok x r =>
        have HR3 := hid (HR2.out.trans (bind_t h3))
        have hF := HI.out us hwu
        rw [h3] at hF
        have HF := hid hF
        have hsz := hF.1
        have hpos := x.size_pos
        clear h3 hF
        rintro e1 w3 ⟨v, rfl, hx, r3, k3⟩
        obtain ⟨op, text, ea, en, ec, ba, bn, bc, la, ln, lc, at_, rfl⟩ := hx.form
        have k13 := (ku.trans' k2).trans' k3
        have hO3 := (HO.out.keep (k2.trans' k3) (by simp; omega))
        obtain ⟨ks, hrow, hall⟩ := hO3.keep (Keep.ofExt ((Ext.refl w3).alloc (.cells #[.int .i64 op, .string ⟨text.toArray⟩, .slice ea en ec, .slice ba bn bc, .slice la ln lc, .int .i64 at_] 78)) : Keep [] _ _) (by simp)
        have lw3 : w.heap.size ≤ w3.heap.size := k13.size
        have lwr : w.heap.size ≤ wr.heap.size := ku.size
        have lw2 : wr.heap.size ≤ w2.heap.size := k2.size
        have lw23 : w2.heap.size ≤ w3.heap.size := k3.size
        have lown : ∀ q, (Value.slice va acc.length vc).ownBlock = some q → q < w2.heap.size := fun q hq => by
          obtain ⟨ks', hrow', _⟩ := HO.out
          have := (hrow'.lt q hq).2
          omega
        have HX := hid hx
        have HALL := hid hall
        clear hx hall hO3
        go_wp2_with (at_builtin; refine wpList_append_lies _ rfl _ _ 34 rfl w.heap.size 78 i0 (.agg #[.int .i64 0, .string ⟨#[]⟩, .slice none 0 0, .slice none 0 0, .slice none 0 0, .int .i64 0]) 6 104 Tryz.underlying34 hi0 hz0 hz1 hz2 rfl (by decide) _ _ _ rfl hrow ⟨w3.heap.size, 0, none⟩ 1 1 [.int .i64 op, .string ⟨text.toArray⟩, .slice ea en ec, .slice ba bn bc, .slice la ln lc, .int .i64 at_] rfl rfl ?c1 ?c2 ?c3 ?c4 ?c5 ?c6 (w3.heap.size + 1) ?c7 ?_)
        case c1 => exact news_cells _ _ _ _ rfl
        case c2 => simp [Value.oneCell']
        case c3 => omega
        case c4 => simp only [maxLen]; omega
        case c5 => omega
        case c6 => simp; omega
        case c7 => simp
        intro g cap w5 hown5 hgr hat hglt
        have hsn := OwnX.snoc (E := stEnc) (T := 78) (a := x) HALL.out (StIs.carry (Carry.keep (Keep.ofExt ((Ext.refl w3).alloc (.cells #[.int .i64 op, .string ⟨text.toArray⟩, .slice ea en ec, .slice ba bn bc, .slice la ln lc, .int .i64 at_] 78)) : Keep [] _ _) (by simp) (fun b hb hf => by have hf' : w2.heap.size ≤ b := hf; exact ⟨by omega, fun hq => by have := lown b hq; omega⟩)) _ _ HX.out.is) hown5 hgr (fun q hq => by
          simp only [Value.ownBlock, Option.some.injEq] at hq
          subst hq
          rcases hat with hat | hat
          · exact .inl hat
          · right; simp; omega)
        have k5 : Keep [br] w w5 := (k13.alloc _).grown hgr fun q hq => .inr (by have := (hrow.lt q hq).1; exact this)
        have r5 : RdAt w5 br n r := (r3.ext ((Ext.refl _).alloc _)).keep (Keep.grownBy hgr (ownL (.slice va acc.length vc)) fun q hq => mem_ownL.2 hq) fun q hq => by
          have := (hrow.lt q (mem_ownL.1 hq)).1
          omega
        have HSN := hid hsn
        clear hsn hown5 hgr hat hrow
        go_wp2_with fail
        go_roundg k
        case measure => omega
        case rel => exact ⟨acc ++ [x], r, by simpa using HSN.out, r5, HF.out.2.2, k5, by rw [List.length_append, List.length_singleton]; omega, by omega, HR3.out⟩
/-- BLOCK, so deep. -/
theorem block_all : ∀ k d, k + d = 33 → BlockC d (BK k) := by
  intro k
  induction k with
  | zero =>
    intro d h w br n ts hr hw
    cases hs : isSign [123] ts with
    | false => exact block_no d _ false w br n ts hr hs
    | true => exact block_deep d (by omega) _ w br n ts hr hs
  | succ k ih =>
    intro d h w br n ts hr hw
    cases hs : isSign [123] ts with
    | false => exact block_no d _ true w br n ts hr hs
    | true =>
      have hE := (expr_all k (d + 1) (by omega)).1
      have hB := ih (d + 1) (by omega)
      exact block_yes d (by omega) (stmtS (EK k).1 (BK k)) (fun w br n ts hr hw => stmt_any d (by omega) _ _ hE (inv_EK k).1 hB (inv_BK k) w br n ts hr hw) (inv_stmt (inv_EK k).1 (inv_BK k)) w br n ts hr hw hs
end Go.Proofs.YtaehlakefgnfmaaGreatDoor
/-
  DERIVED. THE WALKS of function and its closure (printed by gen_fun.py).
-/
namespace Go.Proofs.YtaehlakefgnfmaaGreatDoor
set_option linter.unusedSimpArgs false
set_option linter.unusedVariables false
set_option maxRecDepth 100000
open Go.RowKit

theorem Tryz.infoParam : (Tryz.prog.info? 53).map (fun i => (i.zero, i.size, i.bytes)) = some (some (.agg #[.string ⟨#[]⟩, .int .i64 0]), 2, 24) := by kernel_rfl
/-- The box that holds the reader; the function's block. -/
def SF (b br bF : Nat) (vs : List Value) (w' : World) : Prop := SP b br w' ∧ Blk w' bF 36 vs
theorem SF.ext {b br bF : Nat} {vs : List Value} {w w' : World} (h : SF b br bF vs w) (e : Ext w w') : SF b br bF vs w' := ⟨h.1.ext e, h.2.ext e⟩
theorem SF.keepS {b br bF : Nat} {vs : List Value} {w w' : World} {S : List Nat} (h : SF b br bF vs w) (k : Keep S w w') (hn : b ∉ S) (hn' : bF ∉ S) : SF b br bF vs w' := ⟨⟨k.cellV hn h.1.1, Nat.lt_of_lt_of_le h.1.2 k.size⟩, h.2.keep k hn'⟩
def ParPost (w : World) (br n bF base : Nat) (c0 c2 c3 c4 sv : Value) (acc : List Pa) (R : Res Pa) (e : Ending) (w' : World) : Prop :=
  match R with
  | .ok x r => e = .returned (.tuple #[]) ∧ (∃ sv', Blk w' bF 36 [c0, sv', c2, c3, c4] ∧ OwnX paEnc 53 w' base sv' (acc ++ [x])) ∧ RdAt w' br n r ∧ Keep ([br, bF] ++ ownL sv) w w'
  | .err c r => e = .panicked [faultV c (placeOf n r)] ∧ Keep [br] w w'
set_option maxHeartbeats 8000000 in
theorem par_any (w : World) (br n : Nat) (ts : List Tok) (b0 bF base : Nat) (c0 c2 c3 c4 sv : Value) (acc : List Pa) (hb0 : Blk w b0 44 [.pointer (some ⟨br, 0, none⟩)]) (hbF : Blk w bF 36 [c0, sv, c2, c3, c4])
    (hown : OwnX paEnc 53 w base sv acc) (hr : RdAt w br n ts) (l0 : b0 < base) (lF : bF < base) (lb : base ≤ w.heap.size) (n0 : br < b0) (nF : br < bF) (hacc : acc.length ≤ 100000) :
    Calls Tryz.prog 27 #[.pointer (some ⟨b0, 0, none⟩), .pointer (some ⟨bF, 0, none⟩)] w (ParPost w br n bF base c0 c2 c3 c4 sv acc (paramS ts)) := by
  obtain ⟨i0, hi0, hz0, hz1, hz2⟩ := info_parts Tryz.infoParam
  obtain ⟨va, vc, rfl⟩ := hown.form
  have HO := hid hown
  have HR := hid (show paramS ts = name ts fun nm r => must [58] r fun r => (typS r).bind fun t r => .ok ⟨nm, t⟩ r from rfl)
  have g0 := hb0.cell 0
  simp only [List.getElem?_cons_zero] at g0
  clear hown
  generalize paramS ts = R at HR ⊢
  go_enter Tryz.func27, Tryz.ntmps27
  go_wp2_with fail
  cases h1 : isName ts with
  | false =>
    have H1 := hid h1
    have HR1 := hid (show R = .err 41 ts from HR.out.trans (name_f h1))
    clear h1
    (with_reducible refine (name_no _ br n ts hr H1.out).mono ?_)
    rintro e1 w1 ⟨rfl, k1⟩
    go_wp2_with fail
    refine ⟨rfl, ?_⟩
    rw [HR1.out]
    exact ⟨rfl, k1⟩
  | true =>
    have H1 := hid h1
    have HR1 := hid (HR.out.trans (name_t h1))
    clear h1
    (with_reducible refine (name_yes _ br n ts hr H1.out).mono ?_)
    rintro e1 w1 ⟨rfl, r1, k1⟩
    have G1 := hb0.keep k1 (by simp; omega)
    have g1 := G1.cell 0
    simp only [List.getElem?_cons_zero] at g1
    clear g0
    go_wp2_with fail
    cases h2 : isSign [58] ts.tail with
    | false =>
      have H2 := hid h2
      have HR2 := hid (show R = .err 41 ts.tail from HR1.out.trans (must_f h2))
      clear h2
      (with_reducible refine (mustN _ br n ts.tail r1 _ H2.out _ (by simp)).mono ?_)
      rintro e1 w2 ⟨rfl, k2⟩
      go_wp2_with fail
      refine ⟨rfl, ?_⟩
      rw [HR2.out]
      exact ⟨rfl, k1.trans' k2⟩
    | true =>
      have H2 := hid h2
      have HR2 := hid (HR1.out.trans (must_t h2))
      clear h2
      (with_reducible refine (mustY _ br n ts.tail r1 _ H2.out _ (by simp)).mono ?_)
      rintro e1 w2 ⟨rfl, r2, k2⟩
      have k12 := k1.trans' k2
      have G2 := hb0.keep k12 (by simp; omega)
      have GF := hbF.keep k12 (by simp; omega)
      clear g1
      go_wp2_with fail
      have hS : SF b0 br bF [c0, .slice va acc.length vc, c2, c3, c4] w2.drew := ⟨⟨G2.cell 0, G2.lt⟩, GF⟩
      have lF2 := GF.lt
      refine phase_begin (SF b0 br bF [c0, .slice va acc.length vc, c2, c3, c4]) 9 (by kernel_rfl) ?_
      refine phase_take (i := 0) (v := .pointer (some ⟨bF, 1, none⟩)) rfl (by kernel_rfl) (by omega) (by kernel_rfl) (by kernel_rfl) (by kernel_rfl) (fun _ _ _ h => h) ⟨by rfl, ?_⟩ hS ?_
      · intro wS hSw
        obtain ⟨⟨s1, s2⟩, s3⟩ := hSw
        obtain ⟨s30, s31, s32, s33, s34, s3f⟩ := s3.five
        go_simp
      simp only [Act.put, List.getElem_toArray, List.getElem_cons_succ, List.getElem_cons_zero, List.setIfInBounds_toArray, List.set_cons_zero, List.set_cons_succ]
      refine phase_take (i := 1) (v := .slice va acc.length vc) rfl (by kernel_rfl) (by omega) (by kernel_rfl) (by kernel_rfl) (by kernel_rfl) (fun _ _ _ h => h) ⟨by rfl, ?_⟩ hS ?_
      · intro wS hSw
        obtain ⟨⟨s1, s2⟩, s3⟩ := hSw
        obtain ⟨s30, s31, s32, s33, s34, s3f⟩ := s3.five
        go_simp
      simp only [Act.put, List.getElem_toArray, List.getElem_cons_succ, List.getElem_cons_zero, List.setIfInBounds_toArray, List.set_cons_zero, List.set_cons_succ]
      refine phase_take (i := 2) (v := .string ⟨(headText ts).toArray⟩) rfl (by kernel_rfl) (by omega) (by kernel_rfl) (by kernel_rfl) (by kernel_rfl) (fun _ _ _ h => h) ⟨by rfl, ?_⟩ hS ?_
      · intro wS hSw
        obtain ⟨⟨s1, s2⟩, s3⟩ := hSw
        obtain ⟨s30, s31, s32, s33, s34, s3f⟩ := s3.five
        go_simp
      simp only [Act.put, List.getElem_toArray, List.getElem_cons_succ, List.getElem_cons_zero, List.setIfInBounds_toArray, List.set_cons_zero, List.set_cons_succ]
      refine phase_take (i := 3) (v := .pointer (some ⟨br, 0, none⟩)) rfl (by kernel_rfl) (by omega) (by kernel_rfl) (by kernel_rfl) (by kernel_rfl) (fun _ _ _ h => h) ⟨by rfl, ?_⟩ hS ?_
      · intro wS hSw
        obtain ⟨⟨s1, s2⟩, s3⟩ := hSw
        obtain ⟨s30, s31, s32, s33, s34, s3f⟩ := s3.five
        go_simp
      simp only [Act.put, List.getElem_toArray, List.getElem_cons_succ, List.getElem_cons_zero, List.setIfInBounds_toArray, List.set_cons_zero, List.set_cons_succ]
      refine phase_one (i := 4) (by kernel_rfl) (by omega) rfl (by rfl) (fun K hK => ?_)
      go_simp
      refine (typ_any _ br n _ (r2.ext (Ext.refl _).drew)).mono ?_
      cases h3 : typS ts.tail.tail with
      | err c r =>
        have HR3 := hid (show R = .err c r from HR2.out.trans (bind_f h3))
        clear h3
        rintro e1 w3 ⟨rfl, k3⟩
        go_wp2_with fail
        refine ⟨rfl, ?_⟩
        rw [HR3.out]
        exact ⟨rfl, k12.drew.trans' k3⟩
      | ok ty r =>
        have HR3 := hid (show R = .ok ⟨headText ts, ty⟩ r from HR2.out.trans (bind_t h3))
        clear h3
        rintro e1 w3 ⟨v, rfl, hv, r3, k3⟩
        have hv' : v = .int .i64 ty := hv
        subst hv'
        have k13 := k12.drew.trans' k3
        have lw3 : w.heap.size ≤ w3.heap.size := k13.size
        have hS3 := hS.keepS k3 (by simp; omega) (by simp; omega)
        refine hK _ _ ⟨hS3, ?_⟩
        clear hK K
        try simp only [Act.put, List.getElem_toArray, List.getElem_cons_succ, List.getElem_cons_zero, List.setIfInBounds_toArray, List.set_cons_zero, List.set_cons_succ]
        refine phase_one (i := 5) (by kernel_rfl) (by omega) rfl (by rfl) (fun K hK => ?_)
        go_simp
        refine hK _ _ ⟨hS3, ?_⟩
        clear hK K
        try simp only [Act.put, List.getElem_toArray, List.getElem_cons_succ, List.getElem_cons_zero, List.setIfInBounds_toArray, List.set_cons_zero, List.set_cons_succ]
        refine phase_one (i := 6) (by kernel_rfl) (by omega) rfl (by rfl) (fun K hK => ?_)
        go_simp
        have hS4 := hS3.ext ((Ext.refl w3).alloc (.cells #[.string ⟨(headText ts).toArray⟩, .int .i64 ty] 53))
        refine hK _ _ ⟨hS4, ?_⟩
        clear hK K
        try simp only [Act.put, List.getElem_toArray, List.getElem_cons_succ, List.getElem_cons_zero, List.setIfInBounds_toArray, List.set_cons_zero, List.set_cons_succ]
        obtain ⟨ks, hrow, hall⟩ := (HO.out.keep k13 (by simp; omega)).keep (Keep.ofExt ((Ext.refl w3).alloc (.cells #[.string ⟨(headText ts).toArray⟩, .int .i64 ty] 53)) : Keep [] _ _) (by simp)
        have HALL := hid hall
        clear hall
        refine phase_one (i := 7) (by kernel_rfl) (by omega) rfl (by rfl) (fun K hK => ?_)
        refine wp_append_lies _ (.tmp 9) (.tmp 14) 32 (by rfl) base 53 i0 (.agg #[.string ⟨#[]⟩, .int .i64 0]) 2 24 Tryz.underlying32 hi0 hz0 hz1 hz2 rfl (by omega) (.slice va acc.length vc) acc.length ks (by rfl) hrow ⟨w3.heap.size, 0, none⟩ 1 1
          [.string ⟨(headText ts).toArray⟩, .int .i64 ty] (by rfl) (by rfl) (news_cells _ _ _ _ rfl) (by simp [Value.oneCell']) (by omega) (by simp only [maxLen]; omega) (by omega) (by simp; omega) (w3.heap.size + 1) (by simp) (fun g cap w5 hown5 hgr hat hlt => ?_)
        have lg : base ≤ g := (hown5.lt g rfl).1
        have lown : ∀ q ∈ ownL (.slice va acc.length vc), base ≤ q ∧ q < w.heap.size := fun q hq => by
          obtain ⟨ks', hrow', _⟩ := HO.out
          exact hrow'.lt q (mem_ownL.1 hq)
        have kk := Keep.grownBy hgr (ownL (.slice va acc.length vc)) (fun k hk => mem_ownL.2 hk)
        have hS5 := hS4.keepS kk (fun hm => by have := (lown _ hm).1; omega) (fun hm => by have := (lown _ hm).1; omega)
        refine hK _ _ ⟨hS5, ?_⟩
        clear hK K
        try simp only [Act.put, List.getElem_toArray, List.getElem_cons_succ, List.getElem_cons_zero, List.setIfInBounds_toArray, List.set_cons_zero, List.set_cons_succ]
        obtain ⟨e0, e1', e2, e3, e4, ef⟩ := hS5.2.five
        refine phase_take (i := 8) (v := .pointer (some ⟨bF, 1, none⟩)) rfl (by kernel_rfl) (by omega) (by kernel_rfl) (by kernel_rfl) (by kernel_rfl) (fun _ _ _ h => h) ⟨by rfl, ?_⟩ hS5 ?_
        · intro wS hSw
          obtain ⟨⟨s1, s2⟩, s3⟩ := hSw
          obtain ⟨s30, s31, s32, s33, s34, s3f⟩ := s3.five
          go_simp
        simp only [Act.put, List.getElem_toArray, List.getElem_cons_succ, List.getElem_cons_zero, List.setIfInBounds_toArray, List.set_cons_zero, List.set_cons_succ]
        refine phase_late (i := 9) (by kernel_rfl) (by omega) rfl (by rfl) (fun K hK => ?_)
        go_simp
        refine hK _ _ ?_
        clear hK K
        try simp only [Act.put, List.getElem_toArray, List.getElem_cons_succ, List.getElem_cons_zero, List.setIfInBounds_toArray, List.set_cons_zero, List.set_cons_succ]
        refine wpAny_done (by kernel_rfl) ?_ _
        go_wp2_with fail
        go_end0
        rw [HR3.out]
        have hsn := OwnX.snoc (E := paEnc) (T := 53) (a := ⟨headText ts, ty⟩) HALL.out (show _ = _ from rfl) hown5 hgr (fun q hq => by
          simp only [Value.ownBlock, Option.some.injEq] at hq
          subst hq
          rcases hat with hat | hat
          · exact .inl hat
          · right; simp; omega)
        have KS := Keep.set w5 ⟨bF, 1, none⟩ (.slice (some ⟨g, 0, none⟩) (acc.length + 1) cap)
        have r4 := (r3.ext ((Ext.refl w3).alloc (.cells #[.string ⟨(headText ts).toArray⟩, .int .i64 ty] 53))).keep kk (fun q hq => by have := (lown q hq).1; omega)
        refine ⟨rfl, ⟨_, hS5.2.set 1 _, hsn.keep KS (by simp; omega)⟩, r4.keep KS (by simp; omega), ?_⟩
        refine (((k13.alloc _).mono (T := [br, bF] ++ ownL (.slice va acc.length vc)) (by intro y hy; left; simp at hy ⊢; exact .inl hy)).trans (kk.mono (T := ownL (.slice va acc.length vc)) (fun y hy => .inl hy)) (fun y hy => .inl (by simp only [List.mem_append]; exact .inr hy))).trans KS (by simp)
/-- The closure reads one parameter more. -/
structure FnK (w : World) (br : Nat) (wr : World) : Prop where
  b1 : Blk wr w.heap.size 44 [.pointer (some ⟨br, 0, none⟩)]
  b2 : Blk wr (w.heap.size + 1) 36 [.string ⟨#[]⟩, .slice none 0 0, .int .i64 0, .slice none 0 0, .int .i64 0]
  keep : Keep [br] w wr
  size : w.heap.size + 3 ≤ wr.heap.size
def FnI (w : World) (c0 c2 c3 c4 : Value) (wr : World) (acc : List Pa) : Prop :=
  ∃ sv, Blk wr (w.heap.size + 1 + 1) 36 [c0, sv, c2, c3, c4] ∧ OwnX paEnc 53 wr (w.heap.size + 3) sv acc
theorem fn_reads (w : World) (br n : Nat) (lr : br < w.heap.size) (c0 c2 c3 c4 : Value) :
    Reads paramS 27 #[.pointer (some ⟨w.heap.size, 0, none⟩), .pointer (some ⟨w.heap.size + 1 + 1, 0, none⟩)] br n (FnK w br) (FnI w c0 c2 c3 c4) where
  enters := fun _ => by simp [go_sem]
  keeps := fun h k => ⟨h.b1.keep k (by simp; omega), h.b2.keep k (by simp; omega), h.keep.trans' k, Nat.le_trans h.size k.size⟩
  stays := fun ⟨sv, h1, h2⟩ k => ⟨sv, h1.keep k (by simp; omega), h2.keep k (by simp; omega)⟩
  step := fun wr ts acc hr hw hK ⟨sv, h1, h2⟩ hacc => by
    have lown : ∀ k ∈ ownL sv, w.heap.size + 3 ≤ k := fun k hk => by
      obtain ⟨ks, hrow, _⟩ := h2
      exact (hrow.lt k (mem_ownL.1 hk)).1
    refine (par_any wr br n ts w.heap.size (w.heap.size + 1 + 1) (w.heap.size + 3) c0 c2 c3 c4 sv acc hK.b1 h1 h2 hr (by omega) (by omega) hK.size (by omega) (by omega) (by omega)).mono ?_
    intro e w' h
    cases hp : paramS ts with
    | ok x r =>
      rw [hp] at h
      obtain ⟨rfl, h3, r3, k3⟩ := h
      have hno : ∀ b, br < b → b < w.heap.size + 1 + 1 → b ∉ [br, w.heap.size + 1 + 1] ++ ownL sv := by
        intro b g1 g2 hm
        simp only [List.mem_append, List.mem_cons, List.not_mem_nil, or_false] at hm
        rcases hm with (hm | hm) | hm
        · omega
        · omega
        · have := lown b hm; omega
      refine ⟨rfl, h3, r3, hK.b1.keep k3 (hno _ (by omega) (by omega)), hK.b2.keep k3 (hno _ (by omega) (by omega)), hK.keep.trans k3 ?_, Nat.le_trans hK.size k3.size⟩
      intro x hx
      simp only [List.mem_append, List.mem_cons, List.not_mem_nil, or_false] at hx ⊢
      rcases hx with (hx | hx) | hx
      · exact .inl hx
      · right; omega
      · right; have := lown x hx; omega
    | err c r =>
      rw [hp] at h
      obtain ⟨rfl, k3⟩ := h
      exact ⟨rfl, hK.b1.keep k3 (by simp; omega), hK.b2.keep k3 (by simp; omega), hK.keep.trans' k3, Nat.le_trans hK.size k3.size⟩
end Go.Proofs.YtaehlakefgnfmaaGreatDoor
/-
  DERIVED. THE WALK of function (printed by gen_funb.py).
-/
namespace Go.Proofs.YtaehlakefgnfmaaGreatDoor
set_option linter.unusedSimpArgs false
set_option linter.unusedVariables false
set_option maxRecDepth 100000
open Go.RowKit

/-- A function in new memory. -/
def encF (B : Nat) (w' : World) (f : Fu) (v : Value) : Prop := ∃ vs, v = .agg vs.toArray ∧ FuIs w' (B ≤ ·) f vs
/-- Where function stands. -/
structure FnAt (w wr : World) (br n : Nat) (ts : List Tok) (nm : List UInt8) (ps : List Pa) (rs : Nat) (bd : List St) (at_ : Nat) (vp vb : Value) : Prop where
  lr : br < w.heap.size
  b1 : Blk wr w.heap.size 44 [.pointer (some ⟨br, 0, none⟩)]
  b2 : Blk wr (w.heap.size + 1) 36 [.string ⟨#[]⟩, .slice none 0 0, .int .i64 0, .slice none 0 0, .int .i64 0]
  b3 : Blk wr (w.heap.size + 1 + 1) 36 [.string ⟨nm.toArray⟩, vp, .int .i64 rs, vb, .int .i64 at_]
  pr : RowIs wr (w.heap.size + 3 ≤ ·) vp ps.length (PasIs wr (w.heap.size + 3 ≤ ·) ps)
  bd : RowIs wr (w.heap.size + 3 ≤ ·) vb bd.length (fun ks => StsIs wr (w.heap.size + 3 ≤ ·) bd ks)
  rd : RdAt wr br n ts
  keep : Keep [br] w wr
theorem FnAt.move {w wr : World} {br n at_ rs : Nat} {ts : List Tok} {nm : List UInt8} {ps : List Pa} {bd : List St} {vp vb : Value} (h : FnAt w wr br n ts nm ps rs bd at_ vp vb) {w' : World} {ts' : List Tok} (r : RdAt w' br n ts') (k : Keep [br] wr w') : FnAt w w' br n ts' nm ps rs bd at_ vp vb := by
  have := h.lr
  have c : Carry wr w' (w.heap.size + 3 ≤ ·) (w.heap.size + 3 ≤ ·) := Carry.keep k (fun b hb _ hf => by simp at hb; omega) fun b _ hf => hf
  exact ⟨h.lr, h.b1.keep k (by simp; omega), h.b2.keep k (by simp; omega), h.b3.keep k (by simp; omega), h.pr.carry c fun _ hk => hk, h.bd.sts c, r, h.keep.trans' k⟩
theorem FnAt.size {w wr : World} {br n at_ rs : Nat} {ts : List Tok} {nm : List UInt8} {ps : List Pa} {bd : List St} {vp vb : Value} (h : FnAt w wr br n ts nm ps rs bd at_ vp vb) : w.heap.size + 3 ≤ wr.heap.size := by have := h.b3.lt; omega
theorem FnAt.setName {w wr : World} {br n at_ rs : Nat} {ts : List Tok} {nm : List UInt8} {ps : List Pa} {bd : List St} {vp vb : Value} (h : FnAt w wr br n ts nm ps rs bd at_ vp vb) (nm' : List UInt8) :
    FnAt w (wr.setCell ⟨w.heap.size + 1 + 1, 0, none⟩ (.string ⟨nm'.toArray⟩)) br n ts nm' ps rs bd at_ vp vb := by
  have := h.lr
  have k := Keep.set wr ⟨w.heap.size + 1 + 1, 0, none⟩ (.string ⟨nm'.toArray⟩)
  have c : Carry wr (wr.setCell ⟨w.heap.size + 1 + 1, 0, none⟩ (.string ⟨nm'.toArray⟩)) (w.heap.size + 3 ≤ ·) (w.heap.size + 3 ≤ ·) := Carry.keep k (fun b hb _ hf => by simp at hb; omega) fun b _ hf => hf
  exact ⟨h.lr, h.b1.keep k (by simp; omega), h.b2.keep k (by simp), h.b3.set 0 _, h.pr.carry c fun _ hk => hk, h.bd.sts c, h.rd.keep k (by simp; omega), h.keep.setCell (.inr (show w.heap.size ≤ w.heap.size + 1 + 1 by omega)) _⟩
theorem FnAt.setRes {w wr : World} {br n at_ rs : Nat} {ts : List Tok} {nm : List UInt8} {ps : List Pa} {bd : List St} {vp vb : Value} (h : FnAt w wr br n ts nm ps rs bd at_ vp vb) (rs' : Nat) :
    FnAt w (wr.setCell ⟨w.heap.size + 1 + 1, 2, none⟩ (.int .i64 rs')) br n ts nm ps rs' bd at_ vp vb := by
  have := h.lr
  have k := Keep.set wr ⟨w.heap.size + 1 + 1, 2, none⟩ (.int .i64 rs')
  have c : Carry wr (wr.setCell ⟨w.heap.size + 1 + 1, 2, none⟩ (.int .i64 rs')) (w.heap.size + 3 ≤ ·) (w.heap.size + 3 ≤ ·) := Carry.keep k (fun b hb _ hf => by simp at hb; omega) fun b _ hf => hf
  exact ⟨h.lr, h.b1.keep k (by simp; omega), h.b2.keep k (by simp), h.b3.set 2 _, h.pr.carry c fun _ hk => hk, h.bd.sts c, h.rd.keep k (by simp; omega), h.keep.setCell (.inr (show w.heap.size ≤ w.heap.size + 1 + 1 by omega)) _⟩
theorem FnAt.setBody {w wr : World} {br n at_ rs : Nat} {ts : List Tok} {nm : List UInt8} {ps : List Pa} {bd : List St} {vp vb : Value} (h : FnAt w wr br n ts nm ps rs bd at_ vp vb) {B : Nat} {bd' : List St} {vb' : Value} (hb : encB B wr bd' vb') (hB : w.heap.size + 3 ≤ B) :
    FnAt w (wr.setCell ⟨w.heap.size + 1 + 1, 3, none⟩ vb') br n ts nm ps rs bd' at_ vp vb' := by
  have := h.lr
  have k := Keep.set wr ⟨w.heap.size + 1 + 1, 3, none⟩ vb'
  have c : Carry wr (wr.setCell ⟨w.heap.size + 1 + 1, 3, none⟩ vb') (w.heap.size + 3 ≤ ·) (w.heap.size + 3 ≤ ·) := Carry.keep k (fun b hb _ hf => by simp at hb; omega) fun b _ hf => hf
  have c' : Carry wr (wr.setCell ⟨w.heap.size + 1 + 1, 3, none⟩ vb') (B ≤ ·) (w.heap.size + 3 ≤ ·) := Carry.keep k (fun b hb _ hf => by simp at hb; omega) fun b _ hf => by omega
  exact ⟨h.lr, h.b1.keep k (by simp; omega), h.b2.keep k (by simp), h.b3.set 3 _, h.pr.carry c fun _ hk => hk, RowIs.sts hb c', h.rd.keep k (by simp; omega), h.keep.setCell (.inr (show w.heap.size ≤ w.heap.size + 1 + 1 by omega)) _⟩
theorem FnAt.cells {w wr : World} {br n at_ rs : Nat} {ts : List Tok} {nm : List UInt8} {ps : List Pa} {bd : List St} {vp vb : Value} (h : FnAt w wr br n ts nm ps rs bd at_ vp vb) : wr.cell? ⟨w.heap.size, 0, none⟩ = some (.pointer (some ⟨br, 0, none⟩)) ∧
    (wr.cell? ⟨w.heap.size + 1 + 1, 0, none⟩ = some (.string ⟨nm.toArray⟩) ∧ wr.cell? ⟨w.heap.size + 1 + 1, 1, none⟩ = some vp ∧ wr.cell? ⟨w.heap.size + 1 + 1, 2, none⟩ = some (.int .i64 rs) ∧ wr.cell? ⟨w.heap.size + 1 + 1, 3, none⟩ = some vb ∧ wr.cell? ⟨w.heap.size + 1 + 1, 4, none⟩ = some (.int .i64 at_) ∧ (∀ i, wr.frozen? ⟨w.heap.size + 1 + 1, i, none⟩ = false)) ∧
    (wr.cell? ⟨w.heap.size + 1, 0, none⟩ = some (.string ⟨#[]⟩) ∧ wr.cell? ⟨w.heap.size + 1, 1, none⟩ = some (.slice none 0 0) ∧ wr.cell? ⟨w.heap.size + 1, 2, none⟩ = some (.int .i64 0) ∧ wr.cell? ⟨w.heap.size + 1, 3, none⟩ = some (.slice none 0 0) ∧ wr.cell? ⟨w.heap.size + 1, 4, none⟩ = some (.int .i64 0) ∧ (∀ i, wr.frozen? ⟨w.heap.size + 1, i, none⟩ = false)) :=
  ⟨h.b1.cell 0, h.b3.five, h.b2.five⟩
theorem FnAt.ans {w wr : World} {br n at_ rs : Nat} {ts : List Tok} {nm : List UInt8} {ps : List Pa} {bd : List St} {vp vb : Value} (h : FnAt w wr br n ts nm ps rs bd at_ vp vb) (v2 : Value) (hv : v2 = .int .i64 rs) :
    ∃ wF : World, wF = ((((wr.setCell ⟨w.heap.size + 1, 0, none⟩ (.string ⟨nm.toArray⟩)).setCell ⟨w.heap.size + 1, 1, none⟩ vp).setCell ⟨w.heap.size + 1, 2, none⟩ v2).setCell ⟨w.heap.size + 1, 3, none⟩ vb).setCell ⟨w.heap.size + 1, 4, none⟩ (.int .i64 at_) ∧
      Blk wF (w.heap.size + 1) 36 [.string ⟨nm.toArray⟩, vp, v2, vb, .int .i64 at_] ∧ RdAt wF br n ts ∧ Keep [br] w wF ∧ encF w.heap.size wF ⟨nm, ps, rs, bd, at_⟩ (.agg #[.string ⟨nm.toArray⟩, vp, v2, vb, .int .i64 at_]) := by
  subst hv
  have := h.lr
  obtain ⟨BF, KF⟩ := five_set h.b2 (.string ⟨nm.toArray⟩) vp (.int .i64 rs) vb (.int .i64 at_)
  refine ⟨_, rfl, BF, h.rd.keep KF (by simp; omega), h.keep.trans KF (by simp), _, rfl, ?_⟩
  generalize ((((wr.setCell ⟨w.heap.size + 1, 0, none⟩ (.string ⟨nm.toArray⟩)).setCell ⟨w.heap.size + 1, 1, none⟩ vp).setCell ⟨w.heap.size + 1, 2, none⟩ (.int .i64 rs)).setCell ⟨w.heap.size + 1, 3, none⟩ vb).setCell ⟨w.heap.size + 1, 4, none⟩ (.int .i64 at_) = wF at KF ⊢
  have c : Carry wr wF (w.heap.size + 3 ≤ ·) (w.heap.size ≤ ·) := Carry.keep KF (fun b hb _ hf => by simp at hb; omega) fun b _ hf => by omega
  exact ⟨vp, vb, rfl, h.pr.carry c fun _ hk => hk, h.bd.sts c⟩
theorem rowP_none (w : World) (F : Nat → Prop) : RowIs w F (.slice none 0 0) 0 (PasIs w F []) := ⟨none, 0, [], rfl, Nat.le_refl _, CellsIn.nil _ _ _, rfl⟩
theorem fnAt_begin {w : World} {br n : Nat} {ts : List Tok} (hr : RdAt w br n ts) (p : Nat) :
    FnAt w (((w.alloc (.cells #[.pointer (some ⟨br, 0, none⟩)] 44)).alloc (.cells #[.string ⟨#[]⟩, .slice none 0 0, .int .i64 0, .slice none 0 0, .int .i64 0] 36)).alloc (.cells #[.string ⟨#[]⟩, .slice none 0 0, .int .i64 0, .slice none 0 0, .int .i64 p] 36)) br n ts [] [] 0 [] p (.slice none 0 0) (.slice none 0 0) := by
  have lr := hr.lt
  have b1 := ((Blk.new w 44 [.pointer (some ⟨br, 0, none⟩)]).alloc (.cells #[.string ⟨#[]⟩, .slice none 0 0, .int .i64 0, .slice none 0 0, .int .i64 0] 36)).alloc (.cells #[.string ⟨#[]⟩, .slice none 0 0, .int .i64 0, .slice none 0 0, .int .i64 p] 36)
  have b2 := (Blk.new (w.alloc (.cells #[.pointer (some ⟨br, 0, none⟩)] 44)) 36 [.string ⟨#[]⟩, .slice none 0 0, .int .i64 0, .slice none 0 0, .int .i64 0]).alloc (.cells #[.string ⟨#[]⟩, .slice none 0 0, .int .i64 0, .slice none 0 0, .int .i64 p] 36)
  have b3 := Blk.new ((w.alloc (.cells #[.pointer (some ⟨br, 0, none⟩)] 44)).alloc (.cells #[.string ⟨#[]⟩, .slice none 0 0, .int .i64 0, .slice none 0 0, .int .i64 0] 36)) 36 [.string ⟨#[]⟩, .slice none 0 0, .int .i64 0, .slice none 0 0, .int .i64 p]
  have e4 : Ext w (((w.alloc (.cells #[.pointer (some ⟨br, 0, none⟩)] 44)).alloc (.cells #[.string ⟨#[]⟩, .slice none 0 0, .int .i64 0, .slice none 0 0, .int .i64 0] 36)).alloc (.cells #[.string ⟨#[]⟩, .slice none 0 0, .int .i64 0, .slice none 0 0, .int .i64 p] 36)) := (((Ext.refl w).alloc _).alloc _).alloc _
  simp only [World.size_alloc] at b1 b2 b3
  exact ⟨lr, b1, b2, b3, rowP_none _ _, rowS_none _ _, hr.ext e4, .ofExt e4⟩

/-- FUNCTION. -/
def FunC (f : Rd Fu) : Prop := ∀ (w : World) (br n : Nat) (ts : List Tok), RdAt w br n ts → Wf ts → Calls Tryz.prog 11 #[.pointer (some ⟨br, 0, none⟩)] w (Ans w br n (encF w.heap.size) (f ts))
theorem fun_at_place {ts : List Tok} {n : Nat} (h : isSign [102, 110] ts = true) : placeOf n ts = headPlace ts := place_eq (st_sign_ne h)
theorem inv_params : Inv (fun l : List Pa => sumOf (fun _ => 1) l + 1) (AllP Pa.wf) (listS paramS) := inv_list inv_param (fun _ => Nat.le_refl _)
set_option maxHeartbeats 8000000 in
theorem function_any : FunC funS := by
  intro w br n ts hr hw
  have HR := hid (show funS ts = must [102, 110] ts fun r => name r fun nm r => must [40] r fun r => (listS paramS r).bind fun ps r => if isSign [58] r then (typS r.tail).bind fun t r => (BK 32 r).bind fun bd r => .ok ⟨nm, ps, t, bd, headPlace ts⟩ r else (BK 32 r).bind fun bd r => .ok ⟨nm, ps, 0, bd, headPlace ts⟩ r from rfl)
  have HB : Hid (∀ (w : World) (br n : Nat) (ts : List Tok), RdAt w br n ts → Wf ts → Calls Tryz.prog 30 #[.pointer (some ⟨br, 0, none⟩), .int .i64 1] w (Ans w br n (encB w.heap.size) (BK 32 ts))) := block_all 32 1 rfl
  have S00 := fnAt_begin hr (placeOf n ts)
  have lr := hr.lt
  have r3 := (hr.ext ((Ext.refl _).alloc (.cells #[.pointer (some ⟨br, 0, none⟩)] 44))).ext ((Ext.refl _).alloc (.cells #[.string ⟨#[]⟩, .slice none 0 0, .int .i64 0, .slice none 0 0, .int .i64 0] 36))
  have hmf : ∀ (fn : Fn) (first cap : Array Value) (w : World), (Instr.makeFunc fn first cap).run Tryz.prog w = .ok (.func fn first cap) w := fun _ _ _ _ => rfl
  generalize funS ts = R at HR ⊢
  have hS := hid S00
  clear S00
  go_enter Tryz.func11, Tryz.ntmps11
  go_wp2_with fail
  (with_reducible refine (place_any _ br n ts r3).mono ?_)
  rintro e1 w' ⟨rfl, rfl⟩
  go_wp2_with fail
  cases h1 : isSign [102, 110] ts with
  | false =>
    have H1 := hid h1
    have HRe := hid (show R = .err 41 ts from HR.out.trans (must_f h1))
    clear h1
    (with_reducible refine (mustN _ br n ts hS.out.rd _ H1.out _ (by simp [World.setCell])).mono ?_)
    rintro e1 w1 ⟨rfl, k1⟩
    go_wp2_with fail
    refine ⟨rfl, ?_⟩
    rw [HRe.out]
    exact ⟨rfl, hS.out.keep.trans' k1⟩
  | true =>
    have H1 := hid h1
    have HR1 := hid (HR.out.trans (must_t h1))
    clear h1
    (with_reducible refine (mustY _ br n ts hS.out.rd _ H1.out _ (by simp [World.setCell])).mono ?_)
    rintro e1 w1 ⟨rfl, r1, k1⟩
    have S1 := hS.out.move r1 k1
    clear r1 k1
    obtain ⟨c1, ⟨x0, x1, x2, x3, x4, xf⟩, ⟨z0, z1, z2, z3, z4, zf⟩⟩ := S1.cells
    go_wp2_with fail
    have HPL := hid (fun_at_place (n := n) H1.out)
    cases h2 : isName (List.tail ts) with
    | false =>
      have H2 := hid h2
      have HRe := hid (show R = .err 41 (List.tail ts) from HR1.out.trans (name_f h2))
      clear h2
      (with_reducible refine (name_no _ br n (List.tail ts) S1.rd H2.out).mono ?_)
      rintro e1 w2 ⟨rfl, k2⟩
      go_wp2_with fail
      refine ⟨rfl, ?_⟩
      rw [HRe.out]
      exact ⟨rfl, S1.keep.trans' k2⟩
    | true =>
      have H2 := hid h2
      have HR2 := hid (HR1.out.trans (name_t h2))
      clear h2
      (with_reducible refine (name_yes _ br n (List.tail ts) S1.rd H2.out).mono ?_)
      rintro e1 w2 ⟨rfl, r2, k2⟩
      have S2 := S1.move r2 k2
      clear c1 x0 x1 x2 x3 x4 xf z0 z1 z2 z3 z4 zf
      clear r2 k2
      obtain ⟨c1, ⟨x0, x1, x2, x3, x4, xf⟩, ⟨z0, z1, z2, z3, z4, zf⟩⟩ := S2.cells
      go_wp2_with fail
      have T2 := S2.setName (headText (List.tail ts))
      cases h3 : isSign [40] (List.tail (List.tail ts)) with
      | false =>
        have H3 := hid h3
        have HRe := hid (show R = .err 41 (List.tail (List.tail ts)) from HR2.out.trans (must_f h3))
        clear h3
        (with_reducible refine (mustN _ br n (List.tail (List.tail ts)) T2.rd _ H3.out _ (by simp [World.setCell])).mono ?_)
        rintro e1 w3 ⟨rfl, k3⟩
        go_wp2_with fail
        refine ⟨rfl, ?_⟩
        rw [HRe.out]
        exact ⟨rfl, T2.keep.trans' k3⟩
      | true =>
        have H3 := hid h3
        have HR3 := hid (HR2.out.trans (must_t h3))
        clear h3
        (with_reducible refine (mustY _ br n (List.tail (List.tail ts)) T2.rd _ H3.out _ (by simp [World.setCell])).mono ?_)
        rintro e1 w3 ⟨rfl, r3, k3⟩
        have S3 := T2.move r3 k3
        clear c1 x0 x1 x2 x3 x4 xf z0 z1 z2 z3 z4 zf
        clear r3 k3
        obtain ⟨c1, ⟨x0, x1, x2, x3, x4, xf⟩, ⟨z0, z1, z2, z3, z4, zf⟩⟩ := S3.cells
        go_wp2_with fail
        have hsz4 := S3.size
        refine (list_any (fn_reads w br n lr (.string ⟨(headText (List.tail ts)).toArray⟩) (.int .i64 ((0 : Nat) : Int)) (.slice none 0 0) (.int .i64 (placeOf n ts))) inv_param (fun _ => Nat.le_refl _) _ (List.tail (List.tail (List.tail ts))) S3.rd hw.tail.tail.tail ⟨S3.b1, S3.b2, S3.keep, hsz4⟩ ⟨_, S3.b3, OwnX.nil _ _ _ _⟩).mono ?_
        cases h4 : listS paramS (List.tail (List.tail (List.tail ts))) with
        | err ce rr =>
          have HRe := hid (show R = .err ce rr from HR3.out.trans (bind_f h4))
          clear h4
          rintro e1 w4 ⟨rfl, k4⟩
          go_wp2_with fail
          refine ⟨rfl, ?_⟩
          rw [HRe.out]
          exact ⟨rfl, k4.keep⟩
        | ok ps q =>
          have HR4 := hid (HR3.out.trans (bind_t h4))
          have hF := inv_params _ hw.tail.tail.tail
          rw [h4] at hF
          have HW := hid hF.2.2
          clear h4 hF
          rintro e1 w4 ⟨rfl, ⟨sv, h5, hown⟩, r4, k4⟩
          obtain ⟨sa, sc, rfl⟩ := hown.form
          have S4 : FnAt w w4 br n q (headText (List.tail ts)) ps 0 [] (placeOf n ts) (.slice sa ps.length sc) (.slice none 0 0) := ⟨lr, k4.b1, k4.b2, h5, hown.row, rowS_none _ _, r4, k4.keep⟩
          clear c1 x0 x1 x2 x3 x4 xf z0 z1 z2 z3 z4 zf
          obtain ⟨c1, ⟨x0, x1, x2, x3, x4, xf⟩, ⟨z0, z1, z2, z3, z4, zf⟩⟩ := S4.cells
          go_wp2_with fail
          cases h5 : isSign [58] q with
          | false =>
            have H5 := hid h5
            have HR5 := hid (show R = (BK 32 q).bind fun bd r => .ok ⟨headText (List.tail ts), ps, 0, bd, headPlace ts⟩ r by rw [HR4.out, if_neg (by rw [h5]; decide)])
            clear h5
            (with_reducible refine (take_no _ br n q S4.rd _ H5.out).mono ?_)
            rintro e1 w5 ⟨rfl, r5, k5⟩
            have S5 := S4.move r5 k5
            clear c1 x0 x1 x2 x3 x4 xf z0 z1 z2 z3 z4 zf
            clear r5 k5
            obtain ⟨c1, ⟨x0, x1, x2, x3, x4, xf⟩, ⟨z0, z1, z2, z3, z4, zf⟩⟩ := S5.cells
            go_wp2_with fail
            refine (HB.out _ br n q S5.rd HW.out).mono ?_
            cases h6 : BK 32 q with
            | err ce6 rr6 =>
              have HRe := hid (show R = .err ce6 rr6 from HR5.out.trans (bind_f h6))
              clear h6
              rintro e1 w6 ⟨rfl, k6⟩
              go_wp2_with fail
              refine ⟨rfl, ?_⟩
              rw [HRe.out]
              exact ⟨rfl, S5.keep.trans' k6⟩
            | ok y6 rr6 =>
              have HR6 := hid (HR5.out.trans (bind_t h6))
              clear h6
              rintro e1 w6 ⟨v6, rfl, hv6, r6, k6⟩
              obtain ⟨va6, vc6, vk6, rfl, hvr6⟩ := hv6
              have hvx6 : encB _ w6 y6 _ := ⟨va6, vc6, vk6, rfl, hvr6⟩
              clear hvr6
              have hsz6 := S5.size
              have S6 := S5.move r6 k6
              clear c1 x0 x1 x2 x3 x4 xf z0 z1 z2 z3 z4 zf
              clear r6 k6
              obtain ⟨c1, ⟨x0, x1, x2, x3, x4, xf⟩, ⟨z0, z1, z2, z3, z4, zf⟩⟩ := S6.cells
              go_wp2_with fail
              have T6 := S6.setBody hvx6 hsz6
              obtain ⟨wF, hwF, BF, rF, kF, hX⟩ := T6.ans (.int .i64 0) rfl
              rw [← hwF]
              obtain ⟨q0, q1, q2, q3, q4, _⟩ := BF.five
              refine bodyPost_ret (by simp [results, Tryz.results11, go_sem, q0, q1, q2, q3, q4]; rfl) rfl ?_
              rw [show R = .ok ⟨headText (List.tail ts), ps, 0, y6, placeOf n ts⟩ rr6 by rw [HPL.out]; exact HR6.out]
              exact ⟨_, rfl, hX, rF, kF⟩
          | true =>
            have H5 := hid h5
            have HR5 := hid (show R = (typS (List.tail q)).bind fun t r => (BK 32 r).bind fun bd r => .ok ⟨headText (List.tail ts), ps, t, bd, headPlace ts⟩ r by rw [HR4.out, if_pos h5])
            clear h5
            (with_reducible refine (take_yes _ br n q S4.rd _ H5.out).mono ?_)
            rintro e1 w5 ⟨rfl, r5, k5⟩
            have S5 := S4.move r5 k5
            clear c1 x0 x1 x2 x3 x4 xf z0 z1 z2 z3 z4 zf
            clear r5 k5
            obtain ⟨c1, ⟨x0, x1, x2, x3, x4, xf⟩, ⟨z0, z1, z2, z3, z4, zf⟩⟩ := S5.cells
            go_wp2_with fail
            refine (typ_any _ br n _ S5.rd).mono ?_
            cases ht : typS (List.tail q) with
            | err ce rr =>
              have HRe := hid (show R = .err ce rr from HR5.out.trans (bind_f ht))
              clear ht
              rintro e1 wt ⟨rfl, kt⟩
              go_wp2_with fail
              refine ⟨rfl, ?_⟩
              rw [HRe.out]
              exact ⟨rfl, S5.keep.trans' kt⟩
            | ok ty rt =>
              have HRt := hid (HR5.out.trans (bind_t ht))
              have hF := inv_typ _ HW.out.tail
              rw [ht] at hF
              have HWt := hid hF.2.2
              clear ht hF
              rintro e1 wt ⟨vt, rfl, hvt, rdt, kt⟩
              have hvt' : vt = .int .i64 ty := hvt
              subst hvt'
              clear hvt
              have St := S5.move rdt kt
              clear c1 x0 x1 x2 x3 x4 xf z0 z1 z2 z3 z4 zf
              clear rdt kt
              obtain ⟨c1, ⟨x0, x1, x2, x3, x4, xf⟩, ⟨z0, z1, z2, z3, z4, zf⟩⟩ := St.cells
              go_wp2_with fail
              have Tt := St.setRes ty
              refine (HB.out _ br n rt Tt.rd HWt.out).mono ?_
              cases h11 : BK 32 rt with
              | err ce11 rr11 =>
                have HRe := hid (show R = .err ce11 rr11 from HRt.out.trans (bind_f h11))
                clear h11
                rintro e1 w11 ⟨rfl, k11⟩
                go_wp2_with fail
                refine ⟨rfl, ?_⟩
                rw [HRe.out]
                exact ⟨rfl, Tt.keep.trans' k11⟩
              | ok y11 rr11 =>
                have HR11 := hid (HRt.out.trans (bind_t h11))
                clear h11
                rintro e1 w11 ⟨v11, rfl, hv11, r11, k11⟩
                obtain ⟨va11, vc11, vk11, rfl, hvr11⟩ := hv11
                have hvx11 : encB _ w11 y11 _ := ⟨va11, vc11, vk11, rfl, hvr11⟩
                clear hvr11
                have hsz11 := Tt.size
                have S11 := Tt.move r11 k11
                clear c1 x0 x1 x2 x3 x4 xf z0 z1 z2 z3 z4 zf
                clear r11 k11
                obtain ⟨c1, ⟨x0, x1, x2, x3, x4, xf⟩, ⟨z0, z1, z2, z3, z4, zf⟩⟩ := S11.cells
                go_wp2_with fail
                have T11 := S11.setBody hvx11 hsz11
                obtain ⟨wF, hwF, BF, rF, kF, hX⟩ := T11.ans (.int .i64 ty) rfl
                rw [← hwF]
                obtain ⟨q0, q1, q2, q3, q4, _⟩ := BF.five
                refine bodyPost_ret (by simp [results, Tryz.results11, go_sem, q0, q1, q2, q3, q4]; rfl) rfl ?_
                rw [show R = .ok ⟨headText (List.tail ts), ps, ty, y11, placeOf n ts⟩ rr11 by rw [HPL.out]; exact HR11.out]
                exact ⟨_, rfl, hX, rF, kF⟩
end Go.Proofs.YtaehlakefgnfmaaGreatDoor
