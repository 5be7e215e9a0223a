/-
  DERIVED. THE LAW SyntaxRow, walked.
-/
import Derived.Test.YtaehlakefgnfmaaDoorHead
import Derived.Test.YtaehlakefgnfmaaDoorSameA
import Derived.Test.YtaehlakefgnfmaaDoorAppend
namespace Go.Proofs.YtaehlakefgnfmaaDoor
set_option linter.unusedSimpArgs false
set_option linter.unusedVariables false
open Go.RowKit

theorem onF_of_st {p q : List Fu} (h : p.map Fu.st = q.map Fu.st) : p.map (Fu.on false) = q.map (Fu.on false) := by
  have e : Fu.on false = Fu.st := funext Fu.on_st
  rw [e, h]
theorem fus_one {w : World} {F : Nat → Prop} : ∀ (l : List Fu) (ks : List Value), FusIs w F l ks → ks.length = l.length * 5 ∧ ∀ u ∈ ks, u.oneCell' = true
  | [], ks, h => by
    simp only [FusIs] at h
    subst h
    exact ⟨rfl, by simp⟩
  | x :: l, ks, h => by
    simp only [FusIs] at h
    obtain ⟨v1, v2, rfl, ⟨vp, vb, rfl, ⟨_, _, _, rfl, _⟩, ⟨_, _, _, rfl, _⟩⟩, h2⟩ := h
    obtain ⟨i1, i2⟩ := fus_one l v2 h2
    refine ⟨by simp only [List.length_append, List.length_cons, List.length_nil, i1]; omega, fun u hu => ?_⟩
    rcases List.mem_append.1 hu with hu | hu
    · simp only [List.mem_cons, List.not_mem_nil, or_false] at hu
      rcases hu with rfl | rfl | rfl | rfl | rfl <;> rfl
    · exact i2 u hu
theorem fus_app {w : World} {F : Nat → Prop} : ∀ (l m : List Fu) (ks js : List Value), FusIs w F l ks → FusIs w F m js → FusIs w F (l ++ m) (ks ++ js)
  | [], m, ks, js, h, h2 => by
    simp only [FusIs] at h
    subst h
    simpa using h2
  | x :: l, m, ks, js, h, h2 => by
    simp only [FusIs] at h
    obtain ⟨v1, v2, rfl, h1, h3⟩ := h
    simp only [List.cons_append, FusIs]
    exact ⟨v1, v2 ++ js, by simp, h1, fus_app l m v2 js h3 h2⟩
/-- 'append' of functions to a row of one's own. -/
theorem wp_append_funcs {w : World} {o : Oper} {a : Act} {K : Act → World → Prop} {Q : Exit → Act → World → Prop} (s x : Operand)
    (ho : o.op = .call { callee := .builtin .append, args := #[s, x], argTypes := #[24, 24] })
    (base : Nat) (v : Value) (n : Nat) (xs : List Value) (hs : a.eval s = v) (hown : w.ownsRow base 47 5 v n xs)
    (F : Nat → Prop) (l : List Fu) (xa : Option Addr) (xc : Nat) (ks : List Value) (hx : a.eval x = .slice xa l.length xc) (hc : CellsIn w F xa ks) (hq : FusIs w F l ks) (hn : n + l.length ≤ 100000) (hbase : base ≤ w.heap.size) (m' : Nat) (hm' : n + l.length = m')
    (h : ∀ va cp w', w'.ownsRow base 47 5 (.slice va m' cp) m' (xs ++ ks) → (∀ a0 : World, a0.heap.size ≤ base → Ext a0 w → Ext a0 w') → (∀ k, k < w.heap.size → v.ownBlock ≠ some k → w'.heap[k]? = w.heap[k]?) → K (a.put o.dst (.slice va m' cp)) w') : o.wp Tryd.prog a w K Q := by
  subst hm'
  obtain ⟨i0, hi, hz0, hz1, hz2⟩ := info_parts Tryd.infoFunc
  obtain ⟨hl, h1⟩ := fus_one l ks hq
  obtain ⟨va, vc, rfl, _⟩ := owned_cells hown
  by_cases hm : l.length = 0
  · obtain rfl := List.eq_nil_of_length_eq_zero hm
    obtain rfl : ks = [] := List.eq_nil_of_length_eq_zero (by simpa using hl)
    have h' := h va vc w (by simpa using hown) (fun _ _ h => h) (fun _ _ _ => rfl)
    simp only [List.length_nil, Nat.add_zero] at h'
    have hrun : (Builtin.append_ #[24, 24] o.type #[.slice va n vc, .slice xa 0 xc]).run Tryd.prog w = .ok (.slice va n vc) w := by
      rcases hown.2 with ⟨he, rfl⟩ | ⟨g, cap, cur, he, _, _, hnc, _⟩
      · cases he
        cases xa <;> simp [Builtin.append_, run_underlying Tryd.underlying24, sizeOf, typeInfo, hi, Builtin.lenOf, Builtin.firstCells, loadCells, loadCellsFrom]
      · cases he
        cases xa <;> simp [Builtin.append_, run_underlying Tryd.underlying24, sizeOf, typeInfo, hi, Builtin.lenOf, Builtin.firstCells, hnc, storeCells, loadCells, loadCellsFrom, hz1]
    unfold Oper.wp execOp
    simp only [ho, resolve, invoke, builtin, Sem.run_bind, Sem.run_pure, Result.andThen_ok, List.map_toArray, List.map_cons, List.map_nil, hs, hx, List.length_nil, hrun]
    exact h'
  · obtain ⟨v0, hv0⟩ : ∃ v, ks[0]? = some v := ⟨ks[0]'(by omega), List.getElem?_eq_getElem (by omega)⟩
    obtain ⟨b, off, rfl, _, _⟩ := hc 0 v0 hv0
    refine wp_append_lies w s x 24 ho base 47 i0 _ 5 80 Tryd.underlying24 hi hz0 hz1 hz2 rfl (by omega) (.slice va n vc) n xs hs hown ⟨b, off, none⟩ l.length xc ks hx hl ?_ h1 (by omega) (by simp only [maxLen]; omega) (by omega) hbase w.heap.size rfl
      fun g cap w' h2 h3 _ _ => h _ _ w' h2 (fun a0 h0 e0 => e0.grown hown h0 h3) (fun k hk hne => h3.block k hk (fun e => hne e.symm))
    intro j u hj
    rw [add_plain]
    obtain ⟨b', off', hbb, _, hcell⟩ := hc j u hj
    simp only [Option.some.injEq, Addr.mk.injEq, and_true] at hbb
    obtain ⟨rfl, rfl⟩ := hbb
    exact hcell
theorem owns_newF (w : World) : (w.alloc (.cells #[] 47)).ownsRow w.heap.size 47 5 (.slice (some ⟨w.heap.size, 0, none⟩) 0 0) 0 [] :=
  ⟨rfl, .inr ⟨w.heap.size, 0, #[], rfl, Nat.le_refl _, Blk.new w 47 [], Nat.le_refl _, by decide, rfl, rfl⟩⟩
theorem ownsRow_lower {w : World} {base base' : Nat} {e : TypeId} {size : Nat} {v : Value} {n : Nat} {xs : List Value} (h : w.ownsRow base e size v n xs) (hb : base' ≤ base) : w.ownsRow base' e size v n xs := by
  obtain ⟨hl, h⟩ := h
  refine ⟨hl, ?_⟩
  rcases h with h | ⟨g, cap, cur, h1, h2, h3⟩
  · exact .inl h
  · exact .inr ⟨g, cap, cur, h1, Nat.le_trans hb h2, h3⟩
/-- A block of another type isn't the row's. -/
theorem own_other {w : World} {base b : Nat} {e t : TypeId} {size : Nat} {v : Value} {n : Nat} {xs vs : List Value} (h : w.ownsRow base e size v n xs) (hb : Blk w b t vs) (hne : e ≠ t) : v.ownBlock ≠ some b := by
  intro hk
  rcases h.2 with ⟨rfl, _⟩ | ⟨g, cap, cur, rfl, _, hg, _⟩
  · cases hk
  · simp only [Value.ownBlock, Option.some.injEq] at hk
    subst hk
    unfold Blk at hb
    rw [hb, Option.some.injEq] at hg
    simp only [Obj.cells.injEq] at hg
    exact hne hg.2.1.symm
theorem blk_kept {w w' : World} {base b : Nat} {e t : TypeId} {size : Nat} {v : Value} {n : Nat} {xs vs : List Value} (hb : Blk w b t vs) (h : w.ownsRow base e size v n xs) (hk : ∀ k, k < w.heap.size → v.ownBlock ≠ some k → w'.heap[k]? = w.heap[k]?) (hne : e ≠ t) : Blk w' b t vs := by
  have := hk b hb.lt (own_other h hb hne)
  unfold Blk at *
  rw [this, hb]
theorem set_new (w : World) (t : TypeId) (u v : Value) : (w.alloc (.cells #[u] t)).setCell ⟨w.heap.size, 0, none⟩ v = w.alloc (.cells #[v] t) := by
  unfold World.setCell World.alloc
  congr 1
  apply Array.ext_getElem?
  intro i
  rw [Array.getElem?_modify, Array.getElem?_push, Array.getElem?_push]
  by_cases h : i = w.heap.size
  · subst h; simp
  · simp [h, Ne.symm h]
/-- Behind the store: the row of both, whole. -/
theorem all_row {w0 w : World} {base b8 : Nat} {va : Option Addr} {cp n : Nat} {F G : Nat → Prop} {p q : List Fu} {ks js : List Value} (hown : w.ownsRow base 47 5 (.slice va n cp) n (ks ++ js)) (hb : Blk w b8 26 [.slice none 0 0])
    (hn : n = (p ++ q).length) (hp : FusIs w0 F p ks) (hq : FusIs w0 G q js) (e : Ext w0 w) (hb8 : w0.heap.size ≤ b8) :
    RowIs (w.setCell ⟨b8, 0, none⟩ (.slice va n cp)) (fun _ => True) (.slice va (p ++ q).length cp) (p ++ q).length (FusIs (w.setCell ⟨b8, 0, none⟩ (.slice va n cp)) (fun _ => True) (p ++ q)) ∧
      (w.setCell ⟨b8, 0, none⟩ (.slice va n cp)).cell? ⟨b8, 0, none⟩ = some (.slice va n cp) ∧ Ext w0 (w.setCell ⟨b8, 0, none⟩ (.slice va n cp)) := by
  have e' : Ext w0 (w.setCell ⟨b8, 0, none⟩ (.slice va n cp)) := e.setCell hb8 _
  have hown' := ownsRow_keep hown (Keep.set w ⟨b8, 0, none⟩ (.slice va n cp)) (fun b hb' _ => by
    simp only [List.mem_singleton] at hb'
    subst hb'
    exact own_other hown hb (by decide))
  obtain ⟨a', c', hv, hc, _, hcap⟩ := owned_cells hown'
  cases hv
  subst hn
  refine ⟨⟨va, cp, ks ++ js, rfl, hcap, fun i v hv => ?_, ?_⟩, ?_, e'⟩
  · obtain ⟨b, off, h1, h2⟩ := hc i v hv
    exact ⟨b, off, h1, trivial, h2⟩
  · have c1 : ∀ F : Nat → Prop, Carry w0 (w.setCell ⟨b8, 0, none⟩ (.slice va (p ++ q).length cp)) F (fun _ => True) := fun F => Carry.keep (Keep.ofExt e' : Keep [] _ _) (by simp) (fun _ _ _ => trivial)
    exact fus_app _ _ _ _ (FusIs.carry (c1 F) _ _ hp) (FusIs.carry (c1 G) _ _ hq)
  · have := (hb.set 0 (.slice va (p ++ q).length cp)).cell 0
    simpa using this

set_option maxRecDepth 100000 in
set_option maxHeartbeats 16000000 in
theorem row_walk (w : World) (ht : Tab w) (a : Option Addr) (s : List UInt8) (cap : Nat) (hs : BytesAt w a s) (hcap : s.length ≤ cap) (b : Option Addr) (t : List UInt8) (capt : Nat) (hb : BytesAt w b t) (hcapt : t.length ≤ capt) (hms : s.length ≤ 140737488355328) (hmt : t.length ≤ 140737488355328) :
    Calls Tryd.prog 4 #[.slice a s.length cap, .slice b t.length capt] w fun e w' => e = .returned (.bool true) ∧ Ext w w' := by
  go_enter Tryd.func4, Tryd.ntmps4
  go_wp2_with fail
  refine (head_any w ht).mono ?_
  rintro e w1 ⟨rfl, e1⟩
  clear ht
  have H1 := hid (parse_any w1 a s cap (hs.ext e1) hcap)
  cases hpa : parse s with
  | error x =>
    obtain ⟨x, pl⟩ := x
    have hc := parse_code hpa
    have hx : ((x : Int) != 0) = true := by rcases hc with rfl | rfl | rfl | rfl | rfl <;> rfl
    clear hc
    have H := hid hpa
    clear hpa
    go_wp2_with fail
    refine (parse_err w1 a s cap (hs.ext e1) hcap x pl H.out).mono ?_
    rintro e w2 ⟨rfl, e2⟩
    have E2 := e1.trans e2
    cases hpb : parse t with
    | error y =>
      obtain ⟨y, pl2⟩ := y
      have H' := hid hpb
      clear hpb
      go_wp2_with fail
      refine (parse_err _ b t capt (hb.ext (E2.alloc _)) hcapt y pl2 H'.out).mono ?_
      rintro e w3 ⟨rfl, e3⟩
      go_wp2_with fail
      go_ret
      exact ⟨rfl, ((E2.alloc _).trans e3).alloc _⟩
    | ok q =>
      have H' := hid hpb
      clear hpb
      go_wp2_with fail
      refine (parse_ok _ b t capt (hb.ext (E2.alloc _)) hcapt q H'.out).mono ?_
      rintro e w3 ⟨⟨ga, gc, rfl, hq⟩, e3⟩
      clear hq
      go_wp2_with fail
      go_ret
      exact ⟨rfl, ((E2.alloc _).trans e3).alloc _⟩
  | ok p =>
    have H := hid hpa
    clear hpa
    go_wp2_with fail
    refine (parse_ok w1 a s cap (hs.ext e1) hcap p H.out).mono ?_
    rintro e w2 ⟨⟨fa, fc, rfl, hp⟩, e2⟩
    have HP := hid hp
    clear hp
    have E2 := e1.trans e2
    cases hpb : parse t with
    | error y =>
      obtain ⟨y, pl2⟩ := y
      have hc := parse_code hpb
      have hx : ((y : Int) != 0) = true := by rcases hc with rfl | rfl | rfl | rfl | rfl <;> rfl
      clear hc
      have H' := hid hpb
      clear hpb
      go_wp2_with fail
      refine (parse_err _ b t capt (hb.ext (E2.alloc _)) hcapt y pl2 H'.out).mono ?_
      rintro e w3 ⟨rfl, e3⟩
      go_wp2_with fail
      go_ret
      exact ⟨rfl, ((E2.alloc _).trans e3).alloc _⟩
    | ok q =>
      have H' := hid hpb
      clear hpb
      go_wp2_with fail
      refine (parse_ok _ b t capt (hb.ext (E2.alloc _)) hcapt q H'.out).mono ?_
      rintro e w3 ⟨⟨ga, gc, rfl, hq⟩, e3⟩
      have HQ := hid hq
      clear hq
      have hp3 := e3.cell ((Blk.new w2 26 [.slice fa p.length fc]).cell 0)
      have E23 : Ext w2 w3 := ((Ext.refl _).alloc _).trans e3
      have E3 : Ext w w3 := E2.trans E23
      by_cases hls : 2000 < s.length
      · go_wp2_with fail
        go_ret
        exact ⟨rfl, E3.alloc _⟩
      · by_cases hlt : 2000 < t.length
        · go_wp2_with fail
          go_ret
          exact ⟨rfl, E3.alloc _⟩
        · obtain ⟨O, hO⟩ : ∃ O : Obj, O = .cells #[.slice ga q.length gc] 26 := ⟨_, rfl⟩
          have E4 : Ext w (w3.alloc O) := E3.alloc _
          have hz0 : ((w3.alloc O).alloc (.cells #[] 5)).ownsRow (w3.heap.size + 1) 5 1 (.slice (some ⟨w3.heap.size + 1, 0, none⟩) 0 0) 0 (([] : List UInt8).map B8) := by
            have := owns_new (w3.alloc O) (w3.heap.size + 1) 5 [] 0 (by simp) rfl (by decide)
            rw [World.size_alloc] at this
            exact this
          have hsb := hs.ext (E4.alloc (.cells #[] 5))
          subst hO
          go_wp2_with (at_builtin; refine append_bytes rfl _ _ rfl (w3.heap.size + 1) _ 0 _ rfl hz0 _ s.length cap s rfl rfl hsb (by omega) (by simp) ?_)
          intro v5 w5 hown5 hgr5
          have E5 : Ext (w3.alloc (.cells #[.slice ga q.length gc] 26)) w5 := ((Ext.refl _).alloc _).grown hz0 (by simp) hgr5
          obtain ⟨a5, c5, rfl, _⟩ := owned_cells hown5
          have hb5 : BytesAt (w5.alloc (.cells #[.int .u8 10] 5)) (some ⟨w5.heap.size, 0, none⟩) [10] := CellsAt.new w5 5 [B8 10]
          have hsz5 := E5.size
          simp only [World.size_alloc] at hsz5
          clear hz0 hgr5 hsb
          go_wp2_with (at_builtin; refine append_bytes rfl _ _ rfl (w3.heap.size + 1) _ s.length s rfl (hown5.alloc _) _ 1 1 [10] rfl rfl hb5 (by omega) (by simp; omega) ?_)
          intro v6 w6 hown6 hgr6
          have E6 : Ext (w3.alloc (.cells #[.slice ga q.length gc] 26)) w6 := (E5.alloc _).grown (hown5.alloc _) (by simp) hgr6
          obtain ⟨a6, c6, rfl, _⟩ := owned_cells hown6
          have hsz6 := E6.size
          simp only [World.size_alloc] at hsz6
          have hb6 := hb.ext (E4.trans E6)
          have hown6' : w6.ownsRow (w3.heap.size + 1) 5 1 (.slice a6 (s.length + 1) c6) (s.length + 1) ((s ++ [10]).map B8) := by simpa using hown6
          clear hown5 hgr6 hb5
          go_wp2_with (at_builtin; refine append_bytes rfl _ _ rfl (w3.heap.size + 1) _ (s.length + 1) (s ++ [10]) rfl hown6' _ t.length capt t rfl rfl hb6 (by omega) (by omega) ?_)
          intro v7 w7 hown7 hgr7
          have E7 : Ext (w3.alloc (.cells #[.slice ga q.length gc] 26)) w7 := E6.grown hown6 (by simp) hgr7
          obtain ⟨a7, c7, rfl, hc7, _, hcap7⟩ := owned_cells hown7
          have hsz7 := E7.size
          simp only [World.size_alloc] at hsz7
          have hb7 : BytesAt w7 a7 (s ++ 10 :: t) := by
            unfold BytesAt
            have : s ++ 10 :: t = s ++ [10] ++ t := by simp
            rw [this]
            simpa using hc7
          have hln : (s ++ 10 :: t).length = s.length + 1 + t.length := by simp; omega
          have hp7 := E7.cell (((Ext.refl _).alloc _).cell hp3)
          have hq7 := E7.cell ((Blk.new w3 26 [.slice ga q.length gc]).cell 0)
          have EW7 : Ext w w7 := E4.trans E7
          have E37 : Ext w3 w7 := ((Ext.refl _).alloc _).trans E7
          have E27 : Ext w2 w7 := E23.trans E37
          clear hown6 hown7 hgr7 hc7 hb6
          have hpw := (parse_wf H.out).2
          have hqw := (parse_wf H'.out).2
          have hpl := fusz_len p
          have hql := fusz_len q
          rcases row_law H.out H'.out (by omega) (by omega) with ⟨at_, hrow⟩ | ⟨r, hrow, hst⟩
          · have C := parse_err w7 a7 (s ++ 10 :: t) c7 hb7 (by rw [hln]; omega) 2 at_ hrow
            rw [hln] at C
            have HC := hid C
            clear C hrow hln hb7
            go_wp2_with fail
            refine HC.out.mono ?_
            rintro e w8 ⟨rfl, e8⟩
            go_wp2_with fail
            go_ret
            exact ⟨rfl, (EW7.trans e8).alloc _⟩
          · have C := parse_ok w7 a7 (s ++ 10 :: t) c7 hb7 (by rw [hln]; omega) r hrow
            rw [hln] at C
            have HC := hid C
            have hrw := (parse_wf hrow).2
            have HO := hid (onF_of_st hst)
            clear C hrow hst hln hb7
            go_wp2_with fail
            refine HC.out.mono ?_
            rintro e w8 ⟨⟨ra, rc, rfl, hr⟩, e8⟩
            have HR := hid hr
            clear hr HC
            go_wp2_with fail
            obtain ⟨wd, hwd⟩ : ∃ wd : World, wd = (w8.alloc (.cells #[.slice ra r.length rc] 26)).drew := ⟨_, rfl⟩
            have E89 : Ext w8 wd := by rw [hwd]; exact ((Ext.refl _).alloc _).drew
            have hp9 := (e8.trans E89).cell hp7
            have hq9 := (e8.trans E89).cell hq7
            have hr9 : wd.cell? ⟨w8.heap.size, 0, none⟩ = some (.slice ra r.length rc) := by rw [hwd]; exact (Blk.new w8 26 [.slice ra r.length rc]).cell 0
            have E29 : Ext w2 wd := (E27.trans e8).trans E89
            have E39 : Ext w3 wd := (E37.trans e8).trans E89
            have EWd : Ext w wd := (EW7.trans e8).trans E89
            obtain ⟨fa', fc', ks, hv, _, hcp, hqp⟩ := HP.out
            cases hv
            obtain ⟨ga', gc', js, hv, _, hcq, hqq⟩ := HQ.out
            cases hv
            clear hp7 hq7 hp3
            refine phase_begin (fun w' => w'.cell? ⟨w2.heap.size, 0, none⟩ = some (.slice fa p.length fc) ∧ w'.cell? ⟨w3.heap.size, 0, none⟩ = some (.slice ga q.length gc)) 9 (by kernel_rfl) ?_
            rw [← hwd]
            clear hwd
            refine phase_take (i := 1) (v := .pointer (some ⟨w2.heap.size, 0, none⟩)) rfl (by kernel_rfl) (by omega) (by kernel_rfl) (by kernel_rfl) (by kernel_rfl) (fun _ _ _ h => h) ⟨by rfl, ?_⟩ ⟨hp9, hq9⟩ ?_
            · intro wS hSw
              have s0 := hSw.1
              have s1 := hSw.2
              have l0 := World.block_lt_of_cell? _ _ s0
              have l1 := World.block_lt_of_cell? _ _ s1
              clear hSw
              go_simp
            simp only [Act.put, List.getElem_toArray, List.getElem_cons_succ, List.getElem_cons_zero, List.setIfInBounds_toArray, List.set_cons_zero, List.set_cons_succ]
            refine phase_take (i := 2) (v := .slice fa p.length fc) rfl (by kernel_rfl) (by omega) (by kernel_rfl) (by kernel_rfl) (by kernel_rfl) (fun _ _ _ h => h) ⟨by rfl, ?_⟩ ⟨hp9, hq9⟩ ?_
            · intro wS hSw
              have s0 := hSw.1
              have s1 := hSw.2
              have l0 := World.block_lt_of_cell? _ _ s0
              have l1 := World.block_lt_of_cell? _ _ s1
              clear hSw
              go_simp
            simp only [Act.put, List.getElem_toArray, List.getElem_cons_succ, List.getElem_cons_zero, List.setIfInBounds_toArray, List.set_cons_zero, List.set_cons_succ]
            refine phase_take (i := 4) (v := .pointer (some ⟨w3.heap.size, 0, none⟩)) rfl (by kernel_rfl) (by omega) (by kernel_rfl) (by kernel_rfl) (by kernel_rfl) (fun _ _ _ h => h) ⟨by rfl, ?_⟩ ⟨hp9, hq9⟩ ?_
            · intro wS hSw
              have s0 := hSw.1
              have s1 := hSw.2
              have l0 := World.block_lt_of_cell? _ _ s0
              have l1 := World.block_lt_of_cell? _ _ s1
              clear hSw
              go_simp
            simp only [Act.put, List.getElem_toArray, List.getElem_cons_succ, List.getElem_cons_zero, List.setIfInBounds_toArray, List.set_cons_zero, List.set_cons_succ]
            refine phase_take (i := 5) (v := .slice ga q.length gc) rfl (by kernel_rfl) (by omega) (by kernel_rfl) (by kernel_rfl) (by kernel_rfl) (fun _ _ _ h => h) ⟨by rfl, ?_⟩ ⟨hp9, hq9⟩ ?_
            · intro wS hSw
              have s0 := hSw.1
              have s1 := hSw.2
              have l0 := World.block_lt_of_cell? _ _ s0
              have l1 := World.block_lt_of_cell? _ _ s1
              clear hSw
              go_simp
            simp only [Act.put, List.getElem_toArray, List.getElem_cons_succ, List.getElem_cons_zero, List.setIfInBounds_toArray, List.set_cons_zero, List.set_cons_succ]
            refine phase_two (i := 0) (j := 8) (by kernel_rfl) (by omega) (by omega) rfl (by rfl) rfl (by rfl) (fun K hK => ?_) (fun K hK => ?_)
            · go_simp
              have x1 : Ext wd (wd.alloc (.cells #[] 47)) := (Ext.refl wd).alloc _
              have o1 : (wd.alloc (.cells #[] 47)).ownsRow wd.heap.size 47 5 (.slice (some ⟨wd.heap.size, 0, none⟩) 0 0) 0 [] := by
                have := ownsRow_lower (owns_newF wd) (Ext.refl wd).size
                try simp only [World.size_alloc] at this
                exact this
              refine hK _ _ ⟨⟨(x1).cell hp9, (x1).cell hq9⟩, ?_⟩
              clear hK K
              try simp only [Act.put, List.getElem_toArray, List.getElem_cons_succ, List.getElem_cons_zero, List.setIfInBounds_toArray, List.set_cons_zero, List.set_cons_succ]
              refine phase_two (i := 3) (j := 8) (by kernel_rfl) (by omega) (by omega) rfl (by rfl) rfl (by rfl) (fun K hK => ?_) (fun K hK => ?_)
              · refine wp_append_funcs (.tmp 61) (.tmp 63) (by rfl) wd.heap.size _ 0 [] (by rfl) o1 _ p fa fc ks (by rfl) (hcp.ext (E29.trans (x1))) (fuEnc.exts (show fuEnc.all _ _ p ks from hqp) (E29.trans (x1))) (by omega) (x1).size p.length (by omega) (fun va2 cp2 v2 o2 g2 h2 => ?_)
                have x2 : Ext wd v2 := g2 wd (Nat.le_refl _) (x1)
                refine hK _ _ ⟨⟨(x2).cell hp9, (x2).cell hq9⟩, ?_⟩
                clear hK K
                try simp only [Act.put, List.getElem_toArray, List.getElem_cons_succ, List.getElem_cons_zero, List.setIfInBounds_toArray, List.set_cons_zero, List.set_cons_succ]
                refine phase_two (i := 6) (j := 8) (by kernel_rfl) (by omega) (by omega) rfl (by rfl) rfl (by rfl) (fun K hK => ?_) (fun K hK => ?_)
                · refine wp_append_funcs (.tmp 64) (.tmp 66) (by rfl) wd.heap.size _ p.length ([] ++ ks) (by rfl) o2 _ q ga gc js (by rfl) (hcq.ext (E39.trans (x2))) (fuEnc.exts (show fuEnc.all _ _ q js from hqq) (E39.trans (x2))) (by omega) (x2).size (p.length + q.length) rfl (fun va3 cp3 v3 o3 g3 h3 => ?_)
                  have x3 : Ext wd v3 := g3 wd (Nat.le_refl _) (x2)
                  refine hK _ _ ⟨⟨(x3).cell hp9, (x3).cell hq9⟩, ?_⟩
                  clear hK K
                  try simp only [Act.put, List.getElem_toArray, List.getElem_cons_succ, List.getElem_cons_zero, List.setIfInBounds_toArray, List.set_cons_zero, List.set_cons_succ]
                  refine phase_two (i := 7) (j := 8) (by kernel_rfl) (by omega) (by omega) rfl (by rfl) rfl (by rfl) (fun K hK => ?_) (fun K hK => ?_)
                  · go_simp
                    refine hK _ _ ⟨⟨(x3).cell hp9, (x3).cell hq9⟩, ?_⟩
                    clear hK K
                    try simp only [Act.put, List.getElem_toArray, List.getElem_cons_succ, List.getElem_cons_zero, List.setIfInBounds_toArray, List.set_cons_zero, List.set_cons_succ]
                    refine phase_one (i := 8) (by kernel_rfl) (by omega) rfl (by rfl) (fun K hK => ?_)
                    go_simp
                    have x5 : Ext wd (v3.alloc (.cells #[.slice none 0 0] 26)) := (x3).alloc _
                    have y5 : Blk (v3.alloc (.cells #[.slice none 0 0] 26)) (v3.heap.size) 26 [.slice none 0 0] := by
                      have := Blk.new v3 26 [.slice none 0 0]
                      try simp only [World.size_alloc] at this
                      exact this
                    have z5 : wd.heap.size ≤ v3.heap.size := by
                      have := (x3).size
                      try simp only [World.size_alloc] at this
                      omega
                    have o5 := (o3).alloc (.cells #[.slice none 0 0] 26)
                    refine hK _ _ ⟨⟨(x5).cell hp9, (x5).cell hq9⟩, ?_⟩
                    clear hK K
                    try simp only [Act.put, List.getElem_toArray, List.getElem_cons_succ, List.getElem_cons_zero, List.setIfInBounds_toArray, List.set_cons_zero, List.set_cons_succ]
                    have HX := all_row (p := p) (q := q) (F := (w1.heap.size ≤ ·)) (G := ((w2.alloc (.cells #[.slice fa p.length fc] 26)).heap.size ≤ ·)) (ks := ks) (js := js) (w0 := wd) (by simpa using (o5)) (y5) (by simp) (fuEnc.exts (show fuEnc.all _ _ p ks from hqp) E29) (fuEnc.exts (show fuEnc.all _ _ q js from hqq) E39) (x5) z5
                    have c8 := (y5).cell 0
                    have f8 := (y5).frozen 0
                    have l8 := (y5).lt
                    simp only [List.getElem?_cons_zero] at c8
                    rw [set_new] at HX
                    refine phase_late (i := 9) (by kernel_rfl) (by omega) rfl (by rfl) (fun K hK => ?_)
                    go_simp
                    refine hK _ _ ?_
                    clear hK K
                    try simp only [Act.put, List.getElem_toArray, List.getElem_cons_succ, List.getElem_cons_zero, List.setIfInBounds_toArray, List.set_cons_zero, List.set_cons_succ]
                    obtain ⟨HX1, HX2, HX3⟩ := HX
                    have hr9' := HX3.cell hr9
                    have C := same_true false r (p ++ q) (by omega) HO.out _ _ _ ra _ rc _ (rows_ext HR.out (E89.trans HX3)) HX1
                    rw [List.length_append] at C
                    have HC := hid C
                    clear C HX1
                    refine wpAny_done (by kernel_rfl) ?_ _
                    go_wp2_with fail
                    refine HC.out.mono ?_
                    rintro e wz ⟨rfl, ez⟩
                    go_wp2_with fail
                    go_ret
                    exact ⟨rfl, (EWd.trans HX3).trans ez⟩
                  · go_simp
                    have x6 : Ext wd (v3.alloc (.cells #[.slice none 0 0] 26)) := (x3).alloc _
                    have y6 : Blk (v3.alloc (.cells #[.slice none 0 0] 26)) (v3.heap.size) 26 [.slice none 0 0] := by
                      have := Blk.new v3 26 [.slice none 0 0]
                      try simp only [World.size_alloc] at this
                      exact this
                    have z6 : wd.heap.size ≤ v3.heap.size := by
                      have := (x3).size
                      try simp only [World.size_alloc] at this
                      omega
                    have o6 := (o3).alloc (.cells #[.slice none 0 0] 26)
                    refine hK _ _ ⟨⟨(x6).cell hp9, (x6).cell hq9⟩, ?_⟩
                    clear hK K
                    try simp only [Act.put, List.getElem_toArray, List.getElem_cons_succ, List.getElem_cons_zero, List.setIfInBounds_toArray, List.set_cons_zero, List.set_cons_succ]
                    refine phase_one (i := 7) (by kernel_rfl) (by omega) rfl (by rfl) (fun K hK => ?_)
                    go_simp
                    refine hK _ _ ⟨⟨(x6).cell hp9, (x6).cell hq9⟩, ?_⟩
                    clear hK K
                    try simp only [Act.put, List.getElem_toArray, List.getElem_cons_succ, List.getElem_cons_zero, List.setIfInBounds_toArray, List.set_cons_zero, List.set_cons_succ]
                    have HX := all_row (p := p) (q := q) (F := (w1.heap.size ≤ ·)) (G := ((w2.alloc (.cells #[.slice fa p.length fc] 26)).heap.size ≤ ·)) (ks := ks) (js := js) (w0 := wd) (by simpa using (o6)) (y6) (by simp) (fuEnc.exts (show fuEnc.all _ _ p ks from hqp) E29) (fuEnc.exts (show fuEnc.all _ _ q js from hqq) E39) (x6) z6
                    have c8 := (y6).cell 0
                    have f8 := (y6).frozen 0
                    have l8 := (y6).lt
                    simp only [List.getElem?_cons_zero] at c8
                    rw [set_new] at HX
                    refine phase_late (i := 9) (by kernel_rfl) (by omega) rfl (by rfl) (fun K hK => ?_)
                    go_simp
                    refine hK _ _ ?_
                    clear hK K
                    try simp only [Act.put, List.getElem_toArray, List.getElem_cons_succ, List.getElem_cons_zero, List.setIfInBounds_toArray, List.set_cons_zero, List.set_cons_succ]
                    obtain ⟨HX1, HX2, HX3⟩ := HX
                    have hr9' := HX3.cell hr9
                    have C := same_true false r (p ++ q) (by omega) HO.out _ _ _ ra _ rc _ (rows_ext HR.out (E89.trans HX3)) HX1
                    rw [List.length_append] at C
                    have HC := hid C
                    clear C HX1
                    refine wpAny_done (by kernel_rfl) ?_ _
                    go_wp2_with fail
                    refine HC.out.mono ?_
                    rintro e wz ⟨rfl, ez⟩
                    go_wp2_with fail
                    go_ret
                    exact ⟨rfl, (EWd.trans HX3).trans ez⟩
                · go_simp
                  have x8 : Ext wd (v2.alloc (.cells #[.slice none 0 0] 26)) := (x2).alloc _
                  have y8 : Blk (v2.alloc (.cells #[.slice none 0 0] 26)) (v2.heap.size) 26 [.slice none 0 0] := by
                    have := Blk.new v2 26 [.slice none 0 0]
                    try simp only [World.size_alloc] at this
                    exact this
                  have z8 : wd.heap.size ≤ v2.heap.size := by
                    have := (x2).size
                    try simp only [World.size_alloc] at this
                    omega
                  have o8 := (o2).alloc (.cells #[.slice none 0 0] 26)
                  refine hK _ _ ⟨⟨(x8).cell hp9, (x8).cell hq9⟩, ?_⟩
                  clear hK K
                  try simp only [Act.put, List.getElem_toArray, List.getElem_cons_succ, List.getElem_cons_zero, List.setIfInBounds_toArray, List.set_cons_zero, List.set_cons_succ]
                  refine phase_one (i := 6) (by kernel_rfl) (by omega) rfl (by rfl) (fun K hK => ?_)
                  refine wp_append_funcs (.tmp 64) (.tmp 66) (by rfl) wd.heap.size _ p.length ([] ++ ks) (by rfl) o8 _ q ga gc js (by rfl) (hcq.ext (E39.trans (x8))) (fuEnc.exts (show fuEnc.all _ _ q js from hqq) (E39.trans (x8))) (by omega) (x8).size (p.length + q.length) rfl (fun va9 cp9 v9 o9 g9 h9 => ?_)
                  have x9 : Ext wd v9 := g9 wd (Nat.le_refl _) (x8)
                  have y9 := blk_kept (y8) (o8) h9 (by decide)
                  refine hK _ _ ⟨⟨(x9).cell hp9, (x9).cell hq9⟩, ?_⟩
                  clear hK K
                  try simp only [Act.put, List.getElem_toArray, List.getElem_cons_succ, List.getElem_cons_zero, List.setIfInBounds_toArray, List.set_cons_zero, List.set_cons_succ]
                  refine phase_one (i := 7) (by kernel_rfl) (by omega) rfl (by rfl) (fun K hK => ?_)
                  go_simp
                  refine hK _ _ ⟨⟨(x9).cell hp9, (x9).cell hq9⟩, ?_⟩
                  clear hK K
                  try simp only [Act.put, List.getElem_toArray, List.getElem_cons_succ, List.getElem_cons_zero, List.setIfInBounds_toArray, List.set_cons_zero, List.set_cons_succ]
                  have HX := all_row (p := p) (q := q) (F := (w1.heap.size ≤ ·)) (G := ((w2.alloc (.cells #[.slice fa p.length fc] 26)).heap.size ≤ ·)) (ks := ks) (js := js) (w0 := wd) (by simpa using (o9)) (y9) (by simp) (fuEnc.exts (show fuEnc.all _ _ p ks from hqp) E29) (fuEnc.exts (show fuEnc.all _ _ q js from hqq) E39) (x9) z8
                  have c8 := (y9).cell 0
                  have f8 := (y9).frozen 0
                  have l8 := (y9).lt
                  simp only [List.getElem?_cons_zero] at c8
                  refine phase_late (i := 9) (by kernel_rfl) (by omega) rfl (by rfl) (fun K hK => ?_)
                  go_simp
                  refine hK _ _ ?_
                  clear hK K
                  try simp only [Act.put, List.getElem_toArray, List.getElem_cons_succ, List.getElem_cons_zero, List.setIfInBounds_toArray, List.set_cons_zero, List.set_cons_succ]
                  obtain ⟨HX1, HX2, HX3⟩ := HX
                  have hr9' := HX3.cell hr9
                  have C := same_true false r (p ++ q) (by omega) HO.out _ _ _ ra _ rc _ (rows_ext HR.out (E89.trans HX3)) HX1
                  rw [List.length_append] at C
                  have HC := hid C
                  clear C HX1
                  refine wpAny_done (by kernel_rfl) ?_ _
                  go_wp2_with fail
                  refine HC.out.mono ?_
                  rintro e wz ⟨rfl, ez⟩
                  go_wp2_with fail
                  go_ret
                  exact ⟨rfl, (EWd.trans HX3).trans ez⟩
              · go_simp
                have x11 : Ext wd ((wd.alloc (.cells #[] 47)).alloc (.cells #[.slice none 0 0] 26)) := (x1).alloc _
                have y11 : Blk ((wd.alloc (.cells #[] 47)).alloc (.cells #[.slice none 0 0] 26)) (wd.heap.size + 1) 26 [.slice none 0 0] := by
                  have := Blk.new (wd.alloc (.cells #[] 47)) 26 [.slice none 0 0]
                  try simp only [World.size_alloc] at this
                  exact this
                have z11 : wd.heap.size ≤ wd.heap.size + 1 := by
                  have := (x1).size
                  try simp only [World.size_alloc] at this
                  omega
                have o11 := (o1).alloc (.cells #[.slice none 0 0] 26)
                refine hK _ _ ⟨⟨(x11).cell hp9, (x11).cell hq9⟩, ?_⟩
                clear hK K
                try simp only [Act.put, List.getElem_toArray, List.getElem_cons_succ, List.getElem_cons_zero, List.setIfInBounds_toArray, List.set_cons_zero, List.set_cons_succ]
                refine phase_one (i := 3) (by kernel_rfl) (by omega) rfl (by rfl) (fun K hK => ?_)
                refine wp_append_funcs (.tmp 61) (.tmp 63) (by rfl) wd.heap.size _ 0 [] (by rfl) o11 _ p fa fc ks (by rfl) (hcp.ext (E29.trans (x11))) (fuEnc.exts (show fuEnc.all _ _ p ks from hqp) (E29.trans (x11))) (by omega) (x11).size p.length (by omega) (fun va12 cp12 v12 o12 g12 h12 => ?_)
                have x12 : Ext wd v12 := g12 wd (Nat.le_refl _) (x11)
                have y12 := blk_kept (y11) (o11) h12 (by decide)
                refine hK _ _ ⟨⟨(x12).cell hp9, (x12).cell hq9⟩, ?_⟩
                clear hK K
                try simp only [Act.put, List.getElem_toArray, List.getElem_cons_succ, List.getElem_cons_zero, List.setIfInBounds_toArray, List.set_cons_zero, List.set_cons_succ]
                refine phase_one (i := 6) (by kernel_rfl) (by omega) rfl (by rfl) (fun K hK => ?_)
                refine wp_append_funcs (.tmp 64) (.tmp 66) (by rfl) wd.heap.size _ p.length ([] ++ ks) (by rfl) o12 _ q ga gc js (by rfl) (hcq.ext (E39.trans (x12))) (fuEnc.exts (show fuEnc.all _ _ q js from hqq) (E39.trans (x12))) (by omega) (x12).size (p.length + q.length) rfl (fun va13 cp13 v13 o13 g13 h13 => ?_)
                have x13 : Ext wd v13 := g13 wd (Nat.le_refl _) (x12)
                have y13 := blk_kept (y12) (o12) h13 (by decide)
                refine hK _ _ ⟨⟨(x13).cell hp9, (x13).cell hq9⟩, ?_⟩
                clear hK K
                try simp only [Act.put, List.getElem_toArray, List.getElem_cons_succ, List.getElem_cons_zero, List.setIfInBounds_toArray, List.set_cons_zero, List.set_cons_succ]
                refine phase_one (i := 7) (by kernel_rfl) (by omega) rfl (by rfl) (fun K hK => ?_)
                go_simp
                refine hK _ _ ⟨⟨(x13).cell hp9, (x13).cell hq9⟩, ?_⟩
                clear hK K
                try simp only [Act.put, List.getElem_toArray, List.getElem_cons_succ, List.getElem_cons_zero, List.setIfInBounds_toArray, List.set_cons_zero, List.set_cons_succ]
                have HX := all_row (p := p) (q := q) (F := (w1.heap.size ≤ ·)) (G := ((w2.alloc (.cells #[.slice fa p.length fc] 26)).heap.size ≤ ·)) (ks := ks) (js := js) (w0 := wd) (by simpa using (o13)) (y13) (by simp) (fuEnc.exts (show fuEnc.all _ _ p ks from hqp) E29) (fuEnc.exts (show fuEnc.all _ _ q js from hqq) E39) (x13) z11
                have c8 := (y13).cell 0
                have f8 := (y13).frozen 0
                have l8 := (y13).lt
                simp only [List.getElem?_cons_zero] at c8
                refine phase_late (i := 9) (by kernel_rfl) (by omega) rfl (by rfl) (fun K hK => ?_)
                go_simp
                refine hK _ _ ?_
                clear hK K
                try simp only [Act.put, List.getElem_toArray, List.getElem_cons_succ, List.getElem_cons_zero, List.setIfInBounds_toArray, List.set_cons_zero, List.set_cons_succ]
                obtain ⟨HX1, HX2, HX3⟩ := HX
                have hr9' := HX3.cell hr9
                have C := same_true false r (p ++ q) (by omega) HO.out _ _ _ ra _ rc _ (rows_ext HR.out (E89.trans HX3)) HX1
                rw [List.length_append] at C
                have HC := hid C
                clear C HX1
                refine wpAny_done (by kernel_rfl) ?_ _
                go_wp2_with fail
                refine HC.out.mono ?_
                rintro e wz ⟨rfl, ez⟩
                go_wp2_with fail
                go_ret
                exact ⟨rfl, (EWd.trans HX3).trans ez⟩
            · go_simp
              have x15 : Ext wd (wd.alloc (.cells #[.slice none 0 0] 26)) := (Ext.refl wd).alloc _
              have y15 : Blk (wd.alloc (.cells #[.slice none 0 0] 26)) (wd.heap.size) 26 [.slice none 0 0] := by
                have := Blk.new wd 26 [.slice none 0 0]
                try simp only [World.size_alloc] at this
                exact this
              have z15 : wd.heap.size ≤ wd.heap.size := by
                have := (Ext.refl wd).size
                try simp only [World.size_alloc] at this
                omega
              refine hK _ _ ⟨⟨(x15).cell hp9, (x15).cell hq9⟩, ?_⟩
              clear hK K
              try simp only [Act.put, List.getElem_toArray, List.getElem_cons_succ, List.getElem_cons_zero, List.setIfInBounds_toArray, List.set_cons_zero, List.set_cons_succ]
              refine phase_one (i := 0) (by kernel_rfl) (by omega) rfl (by rfl) (fun K hK => ?_)
              go_simp
              have x16 : Ext wd ((wd.alloc (.cells #[.slice none 0 0] 26)).alloc (.cells #[] 47)) := (x15).alloc _
              have o16 : ((wd.alloc (.cells #[.slice none 0 0] 26)).alloc (.cells #[] 47)).ownsRow wd.heap.size 47 5 (.slice (some ⟨wd.heap.size + 1, 0, none⟩) 0 0) 0 [] := by
                have := ownsRow_lower (owns_newF (wd.alloc (.cells #[.slice none 0 0] 26))) (x15).size
                try simp only [World.size_alloc] at this
                exact this
              have y16 := (y15).alloc (.cells #[] 47)
              refine hK _ _ ⟨⟨(x16).cell hp9, (x16).cell hq9⟩, ?_⟩
              clear hK K
              try simp only [Act.put, List.getElem_toArray, List.getElem_cons_succ, List.getElem_cons_zero, List.setIfInBounds_toArray, List.set_cons_zero, List.set_cons_succ]
              refine phase_one (i := 3) (by kernel_rfl) (by omega) rfl (by rfl) (fun K hK => ?_)
              refine wp_append_funcs (.tmp 61) (.tmp 63) (by rfl) wd.heap.size _ 0 [] (by rfl) o16 _ p fa fc ks (by rfl) (hcp.ext (E29.trans (x16))) (fuEnc.exts (show fuEnc.all _ _ p ks from hqp) (E29.trans (x16))) (by omega) (x16).size p.length (by omega) (fun va17 cp17 v17 o17 g17 h17 => ?_)
              have x17 : Ext wd v17 := g17 wd (Nat.le_refl _) (x16)
              have y17 := blk_kept (y16) (o16) h17 (by decide)
              refine hK _ _ ⟨⟨(x17).cell hp9, (x17).cell hq9⟩, ?_⟩
              clear hK K
              try simp only [Act.put, List.getElem_toArray, List.getElem_cons_succ, List.getElem_cons_zero, List.setIfInBounds_toArray, List.set_cons_zero, List.set_cons_succ]
              refine phase_one (i := 6) (by kernel_rfl) (by omega) rfl (by rfl) (fun K hK => ?_)
              refine wp_append_funcs (.tmp 64) (.tmp 66) (by rfl) wd.heap.size _ p.length ([] ++ ks) (by rfl) o17 _ q ga gc js (by rfl) (hcq.ext (E39.trans (x17))) (fuEnc.exts (show fuEnc.all _ _ q js from hqq) (E39.trans (x17))) (by omega) (x17).size (p.length + q.length) rfl (fun va18 cp18 v18 o18 g18 h18 => ?_)
              have x18 : Ext wd v18 := g18 wd (Nat.le_refl _) (x17)
              have y18 := blk_kept (y17) (o17) h18 (by decide)
              refine hK _ _ ⟨⟨(x18).cell hp9, (x18).cell hq9⟩, ?_⟩
              clear hK K
              try simp only [Act.put, List.getElem_toArray, List.getElem_cons_succ, List.getElem_cons_zero, List.setIfInBounds_toArray, List.set_cons_zero, List.set_cons_succ]
              refine phase_one (i := 7) (by kernel_rfl) (by omega) rfl (by rfl) (fun K hK => ?_)
              go_simp
              refine hK _ _ ⟨⟨(x18).cell hp9, (x18).cell hq9⟩, ?_⟩
              clear hK K
              try simp only [Act.put, List.getElem_toArray, List.getElem_cons_succ, List.getElem_cons_zero, List.setIfInBounds_toArray, List.set_cons_zero, List.set_cons_succ]
              have HX := all_row (p := p) (q := q) (F := (w1.heap.size ≤ ·)) (G := ((w2.alloc (.cells #[.slice fa p.length fc] 26)).heap.size ≤ ·)) (ks := ks) (js := js) (w0 := wd) (by simpa using (o18)) (y18) (by simp) (fuEnc.exts (show fuEnc.all _ _ p ks from hqp) E29) (fuEnc.exts (show fuEnc.all _ _ q js from hqq) E39) (x18) z15
              have c8 := (y18).cell 0
              have f8 := (y18).frozen 0
              have l8 := (y18).lt
              simp only [List.getElem?_cons_zero] at c8
              refine phase_late (i := 9) (by kernel_rfl) (by omega) rfl (by rfl) (fun K hK => ?_)
              go_simp
              refine hK _ _ ?_
              clear hK K
              try simp only [Act.put, List.getElem_toArray, List.getElem_cons_succ, List.getElem_cons_zero, List.setIfInBounds_toArray, List.set_cons_zero, List.set_cons_succ]
              obtain ⟨HX1, HX2, HX3⟩ := HX
              have hr9' := HX3.cell hr9
              have C := same_true false r (p ++ q) (by omega) HO.out _ _ _ ra _ rc _ (rows_ext HR.out (E89.trans HX3)) HX1
              rw [List.length_append] at C
              have HC := hid C
              clear C HX1
              refine wpAny_done (by kernel_rfl) ?_ _
              go_wp2_with fail
              refine HC.out.mono ?_
              rintro e wz ⟨rfl, ez⟩
              go_wp2_with fail
              go_ret
              exact ⟨rfl, (EWd.trans HX3).trans ez⟩
end Go.Proofs.YtaehlakefgnfmaaDoor
namespace Go.Proofs.YtaehlakefgnfmaaDoor.syntaxRow
open Go.RowKit
theorem walk (w : World) (ht : Tab w) (a : Option Addr) (s : List UInt8) (cap : Nat) (hs : BytesAt w a s) (hcap : s.length ≤ cap) (_ : cap ≤ 9223372036854775807) (hms : s.length ≤ 140737488355328) (b : Option Addr) (t : List UInt8) (capt : Nat) (hb : BytesAt w b t) (hcapt : t.length ≤ capt) (_ : capt ≤ 9223372036854775807) (hmt : t.length ≤ 140737488355328) :
    Calls Tryd.prog 4 #[.slice a s.length cap, .slice b t.length capt] w fun e w' => e = .returned (.bool true) ∧ Ext w w' :=
  row_walk w ht a s cap hs hcap b t capt hb hcapt hms hmt
end Go.Proofs.YtaehlakefgnfmaaDoor.syntaxRow
