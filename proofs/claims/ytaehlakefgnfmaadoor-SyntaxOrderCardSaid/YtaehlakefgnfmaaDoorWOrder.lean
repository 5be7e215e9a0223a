/-
  DERIVED. THE LAW SyntaxOrder, walked.
-/
import Derived.Test.YtaehlakefgnfmaaDoorHead
import Derived.Test.YtaehlakefgnfmaaDoorLoose
import Derived.Test.YtaehlakefgnfmaaDoorParseStr
namespace Go.Proofs.YtaehlakefgnfmaaDoor
set_option linter.unusedSimpArgs false
set_option linter.unusedVariables false
open Go.RowKit

/-- The cells of the first statement's first expression, of two things. -/
theorem order_cells {w : World} {F : Nat → Prop} {fa : Option Addr} {fc n o n0 at_ o0 m0 p0 o1' m1 p1 : Nat} {tx t0 t1 : List UInt8} {l0 l1 : List Ex} {f : Fu} (hf : f = ⟨[102], [], 0, [.mk 2 [120] [.mk o n0 tx [.mk o0 m0 t0 l0 p0, .mk o1' m1 t1 l1 p1] at_] [] [] 9], 0⟩)
    (h : RowIs w F (.slice fa n fc) n (FusIs w F [f])) :
    ∃ b off b1 q1 c1 b2 q2 c2 b3 q3 c3, fa = some ⟨b, off, none⟩ ∧ w.cell? ⟨b, off + 3, none⟩ = some (.slice (some ⟨b1, q1, none⟩) 1 c1) ∧ w.cell? ⟨b1, q1 + 2, none⟩ = some (.slice (some ⟨b2, q2, none⟩) 1 c2) ∧
      w.cell? ⟨b2, q2, none⟩ = some (.int .i64 o) ∧ w.cell? ⟨b2, q2 + 1, none⟩ = some (.int .i64 n0) ∧ w.cell? ⟨b2, q2 + 2, none⟩ = some (.string ⟨tx.toArray⟩) ∧ w.cell? ⟨b2, q2 + 3, none⟩ = some (.slice (some ⟨b3, q3, none⟩) 2 c3) ∧ w.cell? ⟨b2, q2 + 4, none⟩ = some (.int .i64 at_) ∧
      w.cell? ⟨b3, q3 + 2, none⟩ = some (.string ⟨t0.toArray⟩) ∧ w.cell? ⟨b3, q3 + 5 + 2, none⟩ = some (.string ⟨t1.toArray⟩) ∧ n ≤ fc ∧ 1 ≤ c1 ∧ 1 ≤ c2 ∧ 2 ≤ c3 := by
  subst hf
  obtain ⟨a', cap', ks, hv, hcap, hc, hq⟩ := h
  cases hv
  obtain ⟨b, off, vs, rfl, h1, h2⟩ := elem_at fuEnc (by decide) fu_cons (l := [_]) hc (show fuEnc.all _ _ [_] _ from hq) (i := 0) (Nat.zero_lt_one)
  obtain ⟨vp, vb, rfl, ⟨pa, pc, pks, rfl, _⟩, ⟨ba, bc, bks, rfl, hbc, hb1, hb2⟩⟩ := h1
  have d3 : w.cell? ⟨b, off + 3, none⟩ = some (.slice ba 1 bc) := h2 3 _ rfl
  obtain ⟨b1, q1, us, rfl, h3, h4⟩ := elem_at stEnc (by decide) st_cons (l := [_]) hb1 hb2 (i := 0) (Nat.zero_lt_one)
  simp only [List.getElem_cons_zero, stEnc, StIs] at h3
  obtain ⟨ve, vb, vl, rfl, ⟨ea, ec, eks, rfl, hec, he1, he2⟩, _⟩ := h3
  have d2 : w.cell? ⟨b1, q1 + 2, none⟩ = some (.slice ea 1 ec) := h4 2 _ rfl
  obtain ⟨b2, q2, xs, rfl, h5, h6⟩ := elem_at exEnc (by decide) ex_cons (l := [_]) he1 he2 (i := 0) (Nat.zero_lt_one)
  simp only [List.getElem_cons_zero, exEnc, ExIs] at h5
  obtain ⟨v, rfl, ⟨ka, kc, kks, rfl, hkc, hk1, hk2⟩⟩ := h5
  obtain ⟨b3, q3, ys, rfl, h7, h8⟩ := elem_at exEnc (by decide) ex_cons (l := [_, _]) hk1 hk2 (i := 0) (Nat.zero_lt_succ 1)
  obtain ⟨b3', q3', zs, hbb, h9, h10⟩ := elem_at exEnc (by decide) ex_cons (l := [_, _]) hk1 hk2 (i := 1) (Nat.lt_succ_self 1)
  simp only [Option.some.injEq, Addr.mk.injEq, and_true] at hbb
  obtain ⟨rfl, rfl⟩ := hbb
  simp only [List.getElem_cons_zero, List.getElem_cons_succ, exEnc, ExIs] at h7 h9
  obtain ⟨v7, rfl, _⟩ := h7
  obtain ⟨v9, rfl, _⟩ := h9
  exact ⟨b, off, b1, q1, bc, b2, q2, ec, b3, q3, kc, rfl, d3, d2, h6 0 _ rfl, h6 1 _ rfl, h6 2 _ rfl, h6 3 _ rfl, h6 4 _ rfl, h8 2 _ rfl, h10 2 _ rfl, hcap, hbc, hec, hkc⟩
theorem sign_short {s : List UInt8} (h : looseN s ≠ 5) : s.length ≤ 2 := by
  have : ∀ s ∈ allSigns, s.length ≤ 2 := by decide
  exact this s (loose_all h)
theorem loose_le (s : List UInt8) : looseN s ≤ 5 := by
  unfold looseN
  repeat' split
  all_goals omega

set_option maxRecDepth 100000 in
set_option maxHeartbeats 8000000 in
theorem order_walk (w : World) (ht : Tab w) (s t : List UInt8) :
    Calls Tryd.prog 7 #[.string ⟨s.toArray⟩, .string ⟨t.toArray⟩] w fun e w' => e = .returned (.bool true) ∧ Ext w w' := by
  have LS := fun w => loose_any w s
  have LT := fun w => loose_any w t
  have HLS := hid LS
  have HLT := hid LT
  clear LS LT
  have hcv := fun (w : World) (s : ByteArray) => run_bytes_of_string (P := Tryd.prog) w 9 22 5 s Tryd.underlying9 Tryd.underlying22 Tryd.underlying5
  go_enter Tryd.func7, Tryd.ntmps7
  go_wp2_with fail
  refine (head_any w ht).mono ?_
  rintro e w1 ⟨rfl, e1⟩
  clear ht
  go_wp2_with fail
  refine (HLS.out w1).mono ?_
  rintro e w2 ⟨rfl, e2⟩
  have E2 := e1.trans e2
  by_cases hs5 : looseN s = 5
  · rw [hs5]
    go_wp2_with fail
    go_ret
    exact ⟨rfl, E2⟩
  · have hs5' : (((looseN s : Nat) : Int) == 5) = false := by simp; omega
    have HS5 := hid hs5
    clear hs5
    go_wp2_with fail
    refine (HLT.out w2).mono ?_
    rintro e w3 ⟨rfl, e3⟩
    have E3 := E2.trans e3
    by_cases ht5 : looseN t = 5
    · rw [ht5]
      go_wp2_with fail
      go_ret
      exact ⟨rfl, E3⟩
    · have ht5' : (((looseN t : Nat) : Int) == 5) = false := by simp; omega
      have HT5 := hid ht5
      have hls := sign_short HS5.out
      have hlt := sign_short HT5.out
      clear ht5
      go_wp2_with fail
      all_goals try omega
      obtain ⟨sx, hsx⟩ : ∃ sx : ByteArray, sx = (⟨#[102, 110, 32, 102, 40, 41, 32, 123, 32, 120, 32, 61, 32, 97, 32]⟩ : ByteArray) ++ ⟨s.toArray⟩ ++ ⟨#[32, 98, 32]⟩ ++ ⟨t.toArray⟩ ++ ⟨#[32, 99, 59, 32, 125]⟩ := ⟨_, rfl⟩
      have hsz : sx.size = 15 + s.length + 3 + t.length + 5 := by rw [hsx]; simp [ByteArray.size_append, ByteArray.size]; omega
      have hd : sx.data.toList = orderText s t := by rw [hsx]; simp [orderText]
      by_cases h22 : looseN s = 2 ∧ looseN t = 2
      · have C := parse_str_err w3 sx 41 (18 + s.length) (by rw [hd]; exact order_no h22.1 h22.2)
        rw [hsz, hsx] at C
        have hs2 := hid h22.1
        have ht2 := hid h22.2
        clear h22 hsz hd hsx hcv
        refine C.mono ?_
        rintro e w4 ⟨rfl, e4⟩
        clear C
        have E4 := E3.trans e4
        go_wp2_with fail
        refine (HLS.out _).mono ?_
        rintro e w5 ⟨rfl, e5⟩
        rw [hs2.out]
        have E5 := (E4.alloc _).trans e5
        go_wp2_with fail
        refine (HLT.out _).mono ?_
        rintro e w6 ⟨rfl, e6⟩
        rw [ht2.out]
        go_wp2_with fail
        go_ret
        exact ⟨rfl, E5.trans e6⟩
      · have C := parse_str_ok w3 sx [orderFu s t] (by rw [hd]; exact order_yes HS5.out HT5.out h22)
        rw [hsz, hsx] at C
        have H22 := hid h22
        clear h22 hsz hd hsx hcv
        refine C.mono ?_
        rintro e w4 ⟨⟨fa, fc, rfl, hr⟩, e4⟩
        clear C
        have E4 := E3.trans e4
        rw [show [orderFu s t].length = 1 from rfl] at hr ⊢
        have hb4 := (Blk.new w4 26 [.slice fa 1 fc]).cell 0
        rw [List.getElem?_cons_zero] at hb4
        by_cases hgt : looseN s < looseN t
        · obtain ⟨b, off, b1, q1, c1, b2, q2, c2, b3, q3, c3, rfl, d1, d2, d3, d4, d5, d6, d7, d8, d9, hfc, h1, h2, h3⟩ := order_cells (f := orderFu s t) (by simp only [orderFu, orderEx, if_pos hgt, exA, exB, exC]; rfl) hr
          have HG := hid hgt
          clear hgt hr
          have p0 := hb4
          clear hb4
          go_wp2_with fail
          refine (HLS.out _).mono ?_
          rintro e w5 ⟨rfl, e5⟩
          have e450 := e5
          have e45 : Ext w4 w5 := ((Ext.refl _).alloc _).trans e5
          have e45w : Ext w w5 := E4.trans e45
          by_cases hs2 : looseN s = 2
          · have ht2 : (((looseN t : Nat) : Int) == 2) = false := by
              have : looseN t ≠ 2 := fun h => H22.out ⟨hs2, h⟩
              simp; omega
            have hs2' : (((looseN s : Nat) : Int) == 2) = true := by rw [hs2]; rfl
            have HS2 := hid hs2
            clear hs2
            go_wp2_with fail
            refine (HLT.out _).mono ?_
            rintro e w6 ⟨rfl, e6⟩
            have e460 := e450.trans e6
            have e46 := e45.trans e6
            have e46w := e45w.trans e6
            have f0 := (e460).cell p0
            have f1 := (e46).cell d1
            have f2 := (e46).cell d2
            have g0 := (e46).cell d3
            have g1 := (e46).cell d4
            have g2 := (e46).cell d5
            have g3 := (e46).cell d6
            have g4 := (e46).cell d7
            have g5 := (e46).cell d8
            have g6 := (e46).cell d9
            have lk := World.block_lt_of_cell? _ _ g5
            have lx := World.block_lt_of_cell? _ _ g2
            go_wp2_with fail
            refine (HLT.out _).mono ?_
            rintro e w8 ⟨rfl, e8⟩
            go_wp2_with fail
            refine (HLS.out _).mono ?_
            rintro e w9 ⟨rfl, e9⟩
            have E89 := e8.trans e9
            have x2 := E89.cell ((Blk.new w6 39 _).cell 2)
            have x3 := E89.cell ((Blk.new w6 39 _).cell 3)
            have k5 := E89.cell (((Ext.refl _).alloc _).cell g5)
            have k6 := E89.cell (((Ext.refl _).alloc _).cell g6)
            have hgt := HG.out
            go_wp2_with fail
            go_ret
            exact ⟨rfl, ((e46w.alloc _).trans e8).trans e9⟩
          · have hs2' : (((looseN s : Nat) : Int) == 2) = false := by simp; omega
            clear hs2
            have f0 := (e450).cell p0
            have f1 := (e45).cell d1
            have f2 := (e45).cell d2
            have g0 := (e45).cell d3
            have g1 := (e45).cell d4
            have g2 := (e45).cell d5
            have g3 := (e45).cell d6
            have g4 := (e45).cell d7
            have g5 := (e45).cell d8
            have g6 := (e45).cell d9
            have lk := World.block_lt_of_cell? _ _ g5
            have lx := World.block_lt_of_cell? _ _ g2
            go_wp2_with fail
            refine (HLT.out _).mono ?_
            rintro e w8 ⟨rfl, e8⟩
            go_wp2_with fail
            refine (HLS.out _).mono ?_
            rintro e w9 ⟨rfl, e9⟩
            have E89 := e8.trans e9
            have x2 := E89.cell ((Blk.new w5 39 _).cell 2)
            have x3 := E89.cell ((Blk.new w5 39 _).cell 3)
            have k5 := E89.cell (((Ext.refl _).alloc _).cell g5)
            have k6 := E89.cell (((Ext.refl _).alloc _).cell g6)
            have hgt := HG.out
            go_wp2_with fail
            go_ret
            exact ⟨rfl, ((e45w.alloc _).trans e8).trans e9⟩
        · obtain ⟨b, off, b1, q1, c1, b2, q2, c2, b3, q3, c3, rfl, d1, d2, d3, d4, d5, d6, d7, d8, d9, hfc, h1, h2, h3⟩ := order_cells (f := orderFu s t) (by simp only [orderFu, orderEx, if_neg hgt, exA, exB, exC]; rfl) hr
          have HG := hid hgt
          clear hgt hr
          have p0 := hb4
          clear hb4
          go_wp2_with fail
          refine (HLS.out _).mono ?_
          rintro e w5 ⟨rfl, e5⟩
          have e450 := e5
          have e45 : Ext w4 w5 := ((Ext.refl _).alloc _).trans e5
          have e45w : Ext w w5 := E4.trans e45
          by_cases hs2 : looseN s = 2
          · have ht2 : (((looseN t : Nat) : Int) == 2) = false := by
              have : looseN t ≠ 2 := fun h => H22.out ⟨hs2, h⟩
              simp; omega
            have hs2' : (((looseN s : Nat) : Int) == 2) = true := by rw [hs2]; rfl
            have HS2 := hid hs2
            clear hs2
            go_wp2_with fail
            refine (HLT.out _).mono ?_
            rintro e w6 ⟨rfl, e6⟩
            have e460 := e450.trans e6
            have e46 := e45.trans e6
            have e46w := e45w.trans e6
            have f0 := (e460).cell p0
            have f1 := (e46).cell d1
            have f2 := (e46).cell d2
            have g0 := (e46).cell d3
            have g1 := (e46).cell d4
            have g2 := (e46).cell d5
            have g3 := (e46).cell d6
            have g4 := (e46).cell d7
            have g5 := (e46).cell d8
            have g6 := (e46).cell d9
            have lk := World.block_lt_of_cell? _ _ g5
            have lx := World.block_lt_of_cell? _ _ g2
            go_wp2_with fail
            refine (HLT.out _).mono ?_
            rintro e w8 ⟨rfl, e8⟩
            go_wp2_with fail
            refine (HLS.out _).mono ?_
            rintro e w9 ⟨rfl, e9⟩
            have E89 := e8.trans e9
            have x2 := E89.cell ((Blk.new w6 39 _).cell 2)
            have x3 := E89.cell ((Blk.new w6 39 _).cell 3)
            have k5 := E89.cell (((Ext.refl _).alloc _).cell g5)
            have k6 := E89.cell (((Ext.refl _).alloc _).cell g6)
            have hgt := HG.out
            go_wp2_with fail
            go_ret
            exact ⟨rfl, ((e46w.alloc _).trans e8).trans e9⟩
          · have hs2' : (((looseN s : Nat) : Int) == 2) = false := by simp; omega
            clear hs2
            have f0 := (e450).cell p0
            have f1 := (e45).cell d1
            have f2 := (e45).cell d2
            have g0 := (e45).cell d3
            have g1 := (e45).cell d4
            have g2 := (e45).cell d5
            have g3 := (e45).cell d6
            have g4 := (e45).cell d7
            have g5 := (e45).cell d8
            have g6 := (e45).cell d9
            have lk := World.block_lt_of_cell? _ _ g5
            have lx := World.block_lt_of_cell? _ _ g2
            go_wp2_with fail
            refine (HLT.out _).mono ?_
            rintro e w8 ⟨rfl, e8⟩
            go_wp2_with fail
            refine (HLS.out _).mono ?_
            rintro e w9 ⟨rfl, e9⟩
            have E89 := e8.trans e9
            have x2 := E89.cell ((Blk.new w5 39 _).cell 2)
            have x3 := E89.cell ((Blk.new w5 39 _).cell 3)
            have k5 := E89.cell (((Ext.refl _).alloc _).cell g5)
            have k6 := E89.cell (((Ext.refl _).alloc _).cell g6)
            have hgt := HG.out
            go_wp2_with fail
            go_ret
            exact ⟨rfl, ((e45w.alloc _).trans e8).trans e9⟩
end Go.Proofs.YtaehlakefgnfmaaDoor
namespace Go.Proofs.YtaehlakefgnfmaaDoor.syntaxOrder
open Go.RowKit
theorem walk (w : World) (ht : Tab w) (s : ByteArray) (_ : s.size ≤ maxLen) (t : ByteArray) (_ : t.size ≤ maxLen) :
    Calls Tryd.prog 7 #[.string s, .string t] w fun e w' => e = .returned (.bool true) ∧ Ext w w' := by
  obtain ⟨s, rfl⟩ : ∃ l : List UInt8, s = ⟨l.toArray⟩ := ⟨s.data.toList, by simp⟩
  obtain ⟨t, rfl⟩ : ∃ l : List UInt8, t = ⟨l.toArray⟩ := ⟨t.data.toList, by simp⟩
  exact order_walk w ht s t
end Go.Proofs.YtaehlakefgnfmaaDoor.syntaxOrder
