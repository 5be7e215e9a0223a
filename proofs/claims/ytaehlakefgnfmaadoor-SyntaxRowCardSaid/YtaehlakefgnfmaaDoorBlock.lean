/-
  DERIVED. THE WALK of block; blocks and statements so deep, all of them.
-/
import Derived.Test.YtaehlakefgnfmaaDoorStmt
namespace Go.Proofs.YtaehlakefgnfmaaDoor
set_option linter.unusedSimpArgs false
set_option linter.unusedVariables false
set_option maxRecDepth 100000
open Go.RowKit

theorem Tryd.infoStmt : (Tryd.prog.info? 43).map (fun i => (i.zero, i.size, i.bytes)) = some (some (.agg #[.int .i64 0, .string ⟨#[]⟩, .slice none 0 0, .slice none 0 0, .slice none 0 0, .int .i64 0]), 6, 104) := by kernel_rfl
theorem encS.form {B : Nat} {w : World} {x : St} {v : Value} (h : encS B w x v) : ∃ (op : Nat) (text : List UInt8) (ea : Option Addr) (en ec : Nat) (ba : Option Addr) (bn bc : Nat) (la : Option Addr) (ln lc at_ : Nat), v = .agg #[.int .i64 op, .string ⟨text.toArray⟩, .slice ea en ec, .slice ba bn bc, .slice la ln lc, .int .i64 at_] := by
  obtain ⟨vs, rfl, h2⟩ := h
  cases x
  simp only [StIs] at h2
  obtain ⟨ve, vb, vl, rfl, ⟨ea, ec, eks, rfl, _⟩, ⟨ba, bc, bks, rfl, _⟩, ⟨la, lc, lks, rfl, _⟩⟩ := h2
  exact ⟨_, _, _, _, _, _, _, _, _, _, _, _, rfl⟩
theorem encS.is {B : Nat} {w : World} {x : St} {l : List Value} (h : encS B w x (.agg l.toArray)) : StIs w (B ≤ ·) x l := by
  obtain ⟨vs, h1, h2⟩ := h
  have : l = vs := by simpa using h1
  rw [this]; exact h2
theorem OwnX.form {α : Type} {E : Enc α} {T : TypeId} {w : World} {base : Nat} {v : Value} {xs : List α} (h : OwnX E T w base v xs) : ∃ (a : Option Addr) (c : Nat), v = .slice a xs.length c := by
  obtain ⟨ks, hrow, _⟩ := h
  obtain ⟨a, c, rfl, _⟩ := owned_cells hrow
  exact ⟨a, c, rfl⟩
theorem blockGo_succ (s : Rd St) (f : Nat) (acc : List St) (ts : List Tok) : blockGo s (f + 1) acc ts = if isSign [125] ts then .ok acc ts.tail else (s ts).bind fun x r => blockGo s f (acc ++ [x]) r := rfl
def BlRel (w : World) (br n : Nat) (s : Rd St) (m : Nat) (R : Res (List St)) (k : Nat) (v : Value) (wr : World) : Prop :=
  ∃ acc us, OwnX stEnc 43 wr w.heap.size v acc ∧ RdAt wr br n us ∧ Wf us ∧ Keep [br] w wr ∧ acc.length + us.length ≤ m ∧ us.length < k ∧ R = blockGo s k acc us

set_option maxHeartbeats 4000000 in
theorem block_no (d : Nat) (s : Rd St) (ok : Bool) (w : World) (br n : Nat) (ts : List Tok) (hr : RdAt w br n ts) (h : isSign [123] ts = false) :
    Calls Tryd.prog 32 #[.pointer (some ⟨br, 0, none⟩), .int .i64 d] w (Ans w br n (encB w.heap.size) (blockS s ok ts)) := by
  have HR := hid (show blockS s ok ts = .err 41 ts by unfold blockS; rw [if_neg (by rw [h]; decide)])
  have H := hid h
  clear h
  generalize blockS s ok ts = R at HR ⊢
  go_enter Tryd.func32, Tryd.ntmps32
  go_wp2_with fail
  (with_reducible refine (at0_any _ br n ts hr _).mono ?_)
  rintro e1 w' ⟨rfl, rfl⟩
  rw [show isSign (ByteArray.mk #[123]).data.toList ts = false from H.out]
  go_wp2_with fail
  (with_reducible refine (mustN _ br n ts hr _ H.out _ (by simp)).mono ?_)
  rintro e1 w1 ⟨rfl, k1⟩
  go_wp2_with fail
  refine ⟨rfl, ?_⟩
  rw [HR.out]
  exact ⟨rfl, k1⟩
set_option maxHeartbeats 4000000 in
theorem block_deep (d : Nat) (hd : 32 < d) (s : Rd St) (w : World) (br n : Nat) (ts : List Tok) (hr : RdAt w br n ts) (h : isSign [123] ts = true) :
    Calls Tryd.prog 32 #[.pointer (some ⟨br, 0, none⟩), .int .i64 d] w (Ans w br n (encB w.heap.size) (blockS s false ts)) := by
  have HR := hid (show blockS s false ts = .err 42 ts by unfold blockS; rw [if_pos h, if_neg (by decide)])
  have H := hid h
  clear h
  generalize blockS s false ts = R at HR ⊢
  go_enter Tryd.func32, Tryd.ntmps32
  go_wp2_with fail
  (with_reducible refine (at0_any _ br n ts hr _).mono ?_)
  rintro e1 w' ⟨rfl, rfl⟩
  rw [show isSign (ByteArray.mk #[123]).data.toList ts = true from H.out]
  go_wp2_with fail
  (with_reducible refine (deep_no _ br n d ts hr hd).mono ?_)
  rintro e1 w1 ⟨rfl, rfl⟩
  go_wp2_with fail
  refine ⟨rfl, ?_⟩
  rw [HR.out]
  exact ⟨rfl, Keep.refl _ _⟩
set_option maxHeartbeats 4000000 in
theorem block_yes (d : Nat) (hd : d ≤ 32) (s : Rd St) (hS : StmtC d s) (hi : Inv St.size WFs s) (w : World) (br n : Nat) (ts : List Tok) (hr : RdAt w br n ts) (hw : Wf ts) (h : isSign [123] ts = true) :
    Calls Tryd.prog 32 #[.pointer (some ⟨br, 0, none⟩), .int .i64 d] w (Ans w br n (encB w.heap.size) (blockS s true ts)) := by
  obtain ⟨i0, hi0, hz0, hz1, hz2⟩ := info_parts Tryd.infoStmt
  have lr := hr.lt
  have hm := hr.len
  have hlen := isSign_len h
  have HR := hid (show blockS s true ts = blockGo s (ts.length + 1) [] ts.tail by unfold blockS; rw [if_pos h, if_pos rfl])
  have H := hid h
  have HS := hid hS
  have HI := hid hi
  clear h hS hi
  generalize blockS s true ts = R at HR ⊢
  go_enter Tryd.func32, Tryd.ntmps32
  go_wp2_with fail
  (with_reducible refine (at0_any _ br n ts hr _).mono ?_)
  rintro e1 w' ⟨rfl, rfl⟩
  rw [show isSign (ByteArray.mk #[123]).data.toList ts = true from H.out]
  go_wp2_with fail
  (with_reducible refine (deep_ok _ br d hd).mono ?_)
  rintro e1 w' ⟨rfl, rfl⟩
  go_wp2_with fail
  (with_reducible refine (mustY _ br n ts hr _ H.out _ (by simp)).mono ?_)
  rintro e1 w1 ⟨rfl, r1, k1⟩
  have HREL := hid (show BlRel w br n s 2048 R (ts.length + 1) (.slice none 0 0) w1 from ⟨[], ts.tail, OwnX.nil _ _ _ _, r1, hw.tail, k1, by simp; omega, by omega, HR.out⟩)
  go_wp2_with fail
  go_loopg [5] (ts.length + 1) (fun k v wr => BlRel w br n s 2048 R k v wr)
  case atStart => exact HREL.out
  case round =>
    obtain ⟨acc, us, hown, ru, hwu, ku, hl, hlt, hR⟩ := hrel
    obtain ⟨k, rfl⟩ : ∃ k, gk = k + 1 := ⟨gk - 1, by omega⟩
    obtain ⟨va, vc, rfl⟩ := hown.form
    have HO := hid hown
    clear HREL HR hown
    cases h2 : isSign [125] us with
    | true =>
      have H2 := hid h2
      have HR2 := hid (show R = .ok acc us.tail by rw [hR, blockGo_succ, if_pos h2])
      clear hR h2
      go_wp2_with fail
      (with_reducible refine (take_yes _ br n us ru _ H2.out).mono ?_)
      rintro e1 w2 ⟨rfl, r2, k2⟩
      go_wp2_with fail
      go_ret
      rw [HR2.out]
      exact ⟨_, rfl, (HO.out.keep k2 (by simp; omega)).row, r2, ku.trans' k2⟩
    | false =>
      have H2 := hid h2
      have HR2 := hid (show R = (s us).bind fun x r => blockGo s k (acc ++ [x]) r by rw [hR, blockGo_succ, if_neg (by rw [h2]; decide)])
      clear hR h2
      go_wp2_with fail
      (with_reducible refine (take_no _ br n us ru _ H2.out).mono ?_)
      rintro e1 w2 ⟨rfl, r2, k2⟩
      go_wp2_with fail
      refine (HS.out _ br n us r2 hwu).mono ?_
      cases h3 : s us with
      | err c r =>
        have HR3 := hid (show R = .err c r from HR2.out.trans (bind_f h3))
        clear h3
        rintro e1 w3 ⟨rfl, k3⟩
        go_wp2_with fail
        refine ⟨rfl, ?_⟩
        rw [HR3.out]
        exact ⟨rfl, (ku.trans' k2).trans' k3⟩
      | ok x r =>
        have HR3 := hid (HR2.out.trans (bind_t h3))
        have hF := HI.out us hwu
        rw [h3] at hF
        have HF := hid hF
        have hsz := hF.1
        have hpos := x.size_pos
        clear h3 hF
        rintro e1 w3 ⟨v, rfl, hx, r3, k3⟩
        obtain ⟨op, text, ea, en, ec, ba, bn, bc, la, ln, lc, at_, rfl⟩ := hx.form
        have k13 := (ku.trans' k2).trans' k3
        have hO3 := (HO.out.keep (k2.trans' k3) (by simp; omega))
        obtain ⟨ks, hrow, hall⟩ := hO3.keep (Keep.ofExt ((Ext.refl w3).alloc (.cells #[.int .i64 op, .string ⟨text.toArray⟩, .slice ea en ec, .slice ba bn bc, .slice la ln lc, .int .i64 at_] 43)) : Keep [] _ _) (by simp)
        have lw3 : w.heap.size ≤ w3.heap.size := k13.size
        have lwr : w.heap.size ≤ wr.heap.size := ku.size
        have lw2 : wr.heap.size ≤ w2.heap.size := k2.size
        have lw23 : w2.heap.size ≤ w3.heap.size := k3.size
        have lown : ∀ q, (Value.slice va acc.length vc).ownBlock = some q → q < w2.heap.size := fun q hq => by
          obtain ⟨ks', hrow', _⟩ := HO.out
          have := (hrow'.lt q hq).2
          omega
        have HX := hid hx
        have HALL := hid hall
        clear hx hall hO3
        go_wp2_with (at_builtin; refine wpList_append_lies _ rfl _ _ 41 rfl w.heap.size 43 i0 (.agg #[.int .i64 0, .string ⟨#[]⟩, .slice none 0 0, .slice none 0 0, .slice none 0 0, .int .i64 0]) 6 104 Tryd.underlying41 hi0 hz0 hz1 hz2 rfl (by decide) _ _ _ rfl hrow ⟨w3.heap.size, 0, none⟩ 1 1 [.int .i64 op, .string ⟨text.toArray⟩, .slice ea en ec, .slice ba bn bc, .slice la ln lc, .int .i64 at_] rfl rfl ?c1 ?c2 ?c3 ?c4 ?c5 ?c6 (w3.heap.size + 1) ?c7 ?_)
        case c1 => exact news_cells _ _ _ _ rfl
        case c2 => simp [Value.oneCell']
        case c3 => omega
        case c4 => simp only [maxLen]; omega
        case c5 => omega
        case c6 => simp; omega
        case c7 => simp
        intro g cap w5 hown5 hgr hat hglt
        have hsn := OwnX.snoc (E := stEnc) (T := 43) (a := x) HALL.out (StIs.carry (Carry.keep (Keep.ofExt ((Ext.refl w3).alloc (.cells #[.int .i64 op, .string ⟨text.toArray⟩, .slice ea en ec, .slice ba bn bc, .slice la ln lc, .int .i64 at_] 43)) : Keep [] _ _) (by simp) (fun b hb hf => by have hf' : w2.heap.size ≤ b := hf; exact ⟨by omega, fun hq => by have := lown b hq; omega⟩)) _ _ HX.out.is) hown5 hgr (fun q hq => by
          simp only [Value.ownBlock, Option.some.injEq] at hq
          subst hq
          rcases hat with hat | hat
          · exact .inl hat
          · right; simp; omega)
        have k5 : Keep [br] w w5 := (k13.alloc _).grown hgr fun q hq => .inr (by have := (hrow.lt q hq).1; exact this)
        have r5 : RdAt w5 br n r := (r3.ext ((Ext.refl _).alloc _)).keep (Keep.grownBy hgr (ownL (.slice va acc.length vc)) fun q hq => mem_ownL.2 hq) fun q hq => by
          have := (hrow.lt q (mem_ownL.1 hq)).1
          omega
        have HSN := hid hsn
        clear hsn hown5 hgr hat hrow
        go_wp2_with fail
        go_roundg k
        case measure => omega
        case rel => exact ⟨acc ++ [x], r, by simpa using HSN.out, r5, HF.out.2.2, k5, by rw [List.length_append, List.length_singleton]; omega, by omega, HR3.out⟩
/-- BLOCK, so deep. -/
theorem block_all : ∀ k d, k + d = 33 → BlockC d (BK k) := by
  intro k
  induction k with
  | zero =>
    intro d h w br n ts hr hw
    cases hs : isSign [123] ts with
    | false => exact block_no d _ false w br n ts hr hs
    | true => exact block_deep d (by omega) _ w br n ts hr hs
  | succ k ih =>
    intro d h w br n ts hr hw
    cases hs : isSign [123] ts with
    | false => exact block_no d _ true w br n ts hr hs
    | true =>
      have hE := (expr_all k (d + 1) (by omega)).1
      have hB := ih (d + 1) (by omega)
      exact block_yes d (by omega) (stmtS (EK k).1 (BK k)) (fun w br n ts hr hw => stmt_any d (by omega) _ _ hE (inv_EK k).1 hB (inv_BK k) w br n ts hr hw) (inv_stmt (inv_EK k).1 (inv_BK k)) w br n ts hr hw hs
end Go.Proofs.YtaehlakefgnfmaaDoor
