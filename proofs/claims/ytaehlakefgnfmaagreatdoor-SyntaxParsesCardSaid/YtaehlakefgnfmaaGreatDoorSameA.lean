/-
  DERIVED. THE WALKS of the reference's SameExpr, sameExprs, sameStmts and Same, where things are alike; ahead of them the plain notion.
-/
import Derived.Test.YtaehlakefgnfmaaGreatDoorJoin
import Derived.Test.YtaehlakefgnfmaaGreatDoorSyn
namespace Go.Proofs.YtaehlakefgnfmaaGreatDoor
set_option linter.unusedSimpArgs false
set_option linter.unusedVariables false

mutual
/-- An expression, its places kept or not. -/
def Ex.on (b : Bool) : Ex → Ex
  | .mk op num text kids p => .mk op num text (Ex.ons b kids) (if b then p else 0)
def Ex.ons (b : Bool) : List Ex → List Ex
  | [] => []
  | x :: l => x.on b :: Ex.ons b l
end
mutual
def St.on (b : Bool) : St → St
  | .mk op text es bd el p => .mk op text (Ex.ons b es) (St.ons b bd) (St.ons b el) (if b then p else 0)
def St.ons (b : Bool) : List St → List St
  | [] => []
  | x :: l => x.on b :: St.ons b l
end
def Fu.on (b : Bool) (f : Fu) : Fu := ⟨f.name, f.params, f.result, St.ons b f.body, if b then f.at_ else 0⟩
mutual
theorem Ex.on_st : ∀ x : Ex, x.on false = x.st
  | .mk op num text kids p => by simp only [Ex.on, Ex.st, Ex.ons_st kids]; rfl
theorem Ex.ons_st : ∀ l : List Ex, Ex.ons false l = Ex.sts l
  | [] => rfl
  | x :: l => by simp only [Ex.ons, Ex.sts, Ex.on_st x, Ex.ons_st l]
end
mutual
theorem St.on_st : ∀ x : St, x.on false = x.st
  | .mk op text es bd el p => by simp only [St.on, St.st, Ex.ons_st es, St.ons_st bd, St.ons_st el]; rfl
theorem St.ons_st : ∀ l : List St, St.ons false l = St.sts l
  | [] => rfl
  | x :: l => by simp only [St.ons, St.sts, St.on_st x, St.ons_st l]
end
theorem Fu.on_st (f : Fu) : f.on false = f.st := by simp only [Fu.on, Fu.st, St.ons_st]; rfl
theorem Ex.ons_map (b : Bool) (l : List Ex) : Ex.ons b l = l.map (Ex.on b) := by
  induction l with
  | nil => rfl
  | cons x l ih => simp only [Ex.ons, List.map_cons, ih]
theorem St.ons_map (b : Bool) (l : List St) : St.ons b l = l.map (St.on b) := by
  induction l with
  | nil => rfl
  | cons x l ih => simp only [St.ons, List.map_cons, ih]
/-- Rows alike are of one length, and alike at each place. -/
theorem map_alike {α β : Type} {f : α → β} {l m : List α} (h : l.map f = m.map f) : l.length = m.length ∧ ∀ i (h1 : i < l.length) (h2 : i < m.length), f l[i] = f m[i] := by
  refine ⟨by simpa using congrArg List.length h, fun i h1 h2 => ?_⟩
  have : (l.map f)[i]? = (m.map f)[i]? := by rw [h]
  rw [List.getElem?_map, List.getElem?_map, List.getElem?_eq_getElem h1, List.getElem?_eq_getElem h2] at this
  simpa using this
theorem exs_alike {b : Bool} {l m : List Ex} (h : Ex.ons b l = Ex.ons b m) : l.length = m.length ∧ ∀ i (h1 : i < l.length) (h2 : i < m.length), l[i].on b = m[i].on b := by
  rw [Ex.ons_map, Ex.ons_map] at h; exact map_alike h
theorem sts_alike {b : Bool} {l m : List St} (h : St.ons b l = St.ons b m) : l.length = m.length ∧ ∀ i (h1 : i < l.length) (h2 : i < m.length), l[i].on b = m[i].on b := by
  rw [St.ons_map, St.ons_map] at h; exact map_alike h
theorem exs_mem {x : Ex} {l : List Ex} (h : x ∈ l) : x.size ≤ Ex.sizes l := by
  induction l with
  | nil => cases h
  | cons y l ih =>
    simp only [Ex.sizes]
    rcases List.mem_cons.1 h with rfl | h
    · omega
    · have := ih h; omega
theorem sts_mem {x : St} {l : List St} (h : x ∈ l) : x.size ≤ St.sizes l := by
  induction l with
  | nil => cases h
  | cons y l ih =>
    simp only [St.sizes]
    rcases List.mem_cons.1 h with rfl | h
    · omega
    · have := ih h; omega
theorem exs_short (l : List Ex) : l.length ≤ Ex.sizes l := by
  induction l with
  | nil => simp [Ex.sizes]
  | cons y l ih => have := y.size_pos; simp only [Ex.sizes, List.length_cons]; omega
theorem sts_short (l : List St) : l.length ≤ St.sizes l := by
  induction l with
  | nil => simp [St.sizes]
  | cons y l ih => have := y.size_pos; simp only [St.sizes, List.length_cons]; omega
end Go.Proofs.YtaehlakefgnfmaaGreatDoor
namespace Go.Proofs.YtaehlakefgnfmaaGreatDoor
set_option linter.unusedSimpArgs false
set_option linter.unusedVariables false
set_option maxRecDepth 100000
open Go.RowKit

/-- SameExpr says so of whatever is alike and no greater. -/
def SameEC (b : Bool) (k : Nat) : Prop := ∀ (x y : Ex), x.size ≤ k → x.on b = y.on b → ∀ (w : World) (F G : Nat → Prop) (vs us : List Value), exEnc.one w F x vs → exEnc.one w G y us →
  Calls Tryz.prog 69 #[.agg vs.toArray, .agg us.toArray, .bool b] w fun e w' => e = .returned (.bool true) ∧ Ext w w'
set_option maxHeartbeats 4000000 in
theorem sameEs_of {b : Bool} {k : Nat} (h : SameEC b k) (l m : List Ex) (hl : ∀ x ∈ l, x.size ≤ k) (hlen : l.length ≤ 100000) (hal : Ex.ons b l = Ex.ons b m) (w : World) (F G : Nat → Prop) (a c : Option Addr) (ca cc : Nat) (ks js : List Value)
    (h1 : CellsIn w F a ks) (q1 : exEnc.all w F l ks) (h2 : CellsIn w G c js) (q2 : exEnc.all w G m js) :
    Calls Tryz.prog 40 #[.slice a l.length ca, .slice c m.length cc, .bool b] w fun e w' => e = .returned (.bool true) ∧ Ext w w' := by
  obtain ⟨hlm, hat⟩ := exs_alike hal
  have hml : m.length = l.length := hlm.symm
  have HA := hid hat
  have HL := hid hl
  have HM := hid hlm
  have HH := hid h
  clear hat hl hal hlm h
  rw [hml]
  go_enter Tryz.func40, Tryz.ntmps40
  go_wp2_with fail
  go_loopw [7, 8] (fun i _ wr => ∃ j : Nat, j ≤ l.length ∧ i = .int .i64 j ∧ Ext w wr) (fun i _ _ => l.length - (intOf i).toNat)
  case atStart => exact ⟨0, Nat.zero_le _, rfl, Ext.refl _⟩
  case round =>
    obtain ⟨j, hj, rfl, he⟩ := hrel
    by_cases hlt : j < l.length
    · have hltm : j < m.length := by omega
      obtain ⟨b1, o1, vs, rfl, e1, f1⟩ := elem_at exEnc (by decide) ex_cons (h1.ext he) (exEnc.exts q1 he) hlt
      obtain ⟨b2, o2, us, rfl, e2, f2⟩ := elem_at exEnc (by decide) ex_cons (h2.ext he) (exEnc.exts q2 he) hltm
      obtain ⟨op, num, text, ka, kn, kc, at_, rfl⟩ := ex_form e1
      obtain ⟨op', num', text', ka', kn', kc', at_', rfl⟩ := ex_form e2
      have c0 := f1 0 _ rfl
      have c1 := f1 1 _ rfl
      have c2 := f1 2 _ rfl
      have c3 := f1 3 _ rfl
      have c4 := f1 4 _ rfl
      have d0 := f2 0 _ rfl
      have d1 := f2 1 _ rfl
      have d2 := f2 2 _ rfl
      have d3 := f2 3 _ rfl
      have d4 := f2 4 _ rfl
      simp only [exEnc, Nat.add_zero] at c0 c1 c2 c3 c4 d0 d1 d2 d3 d4
      have HC := hid fun (wz : World) (ez : Ext wr wz) => HH.out l[j] m[j] (HL.out _ (List.getElem_mem hlt)) (HA.out j hlt hltm) wz F G _ _ (exEnc.ext e1 ez) (exEnc.ext e2 ez)
      clear e1 e2 f1 f2
      go_wp2_with fail
      go_region_with (go_at_call 69; refine (HC.out _ (by exact (Ext.refl _).drew)).mono ?_; rintro e w3 ⟨rfl, e3⟩)
      all_goals go_wp2_with fail
      all_goals exact ⟨⟨j + 1, by omega, by go_num, (he.trans (Ext.refl _).drew).trans e3⟩, by simp [intOf]; omega⟩
    · go_wp2_with fail
      go_ret
      exact ⟨rfl, he⟩
theorem ex_on {b : Bool} {x y : Ex} (h : x.on b = y.on b) : ∃ op num text ks js p q, x = .mk op num text ks p ∧ y = .mk op num text js q ∧ Ex.ons b ks = Ex.ons b js ∧ (b = true → p = q) := by
  cases x with
  | mk op num text ks p =>
    cases y with
    | mk op' num' text' js q =>
      simp only [Ex.on, Ex.mk.injEq] at h
      obtain ⟨rfl, rfl, rfl, h4, h5⟩ := h
      exact ⟨_, _, _, _, _, _, _, rfl, rfl, h4, fun hb => by rw [hb] at h5; exact h5⟩
set_option maxHeartbeats 4000000 in
theorem sameE_step {b : Bool} {k : Nat} (h : SameEC b k) (hk : k < 100000) : SameEC b (k + 1) := by
  intro x y hx hxy w F G vs us h1 h2
  obtain ⟨op, num, text, ks, js, p, q, rfl, rfl, hks, hpq⟩ := ex_on hxy
  clear hxy
  simp only [exEnc, ExIs] at h1 h2
  obtain ⟨v1, rfl, a, ca, vs1, rfl, hca, hc1, hq1⟩ := h1
  obtain ⟨v2, rfl, c, cc, vs2, rfl, hcc, hc2, hq2⟩ := h2
  simp only [Ex.size] at hx
  have hsz : Ex.sizes ks ≤ k := by omega
  have HC := hid fun (wz : World) (ez : Ext w wz) => sameEs_of h ks js (fun z hz => Nat.le_trans (exs_mem hz) hsz) (by have := exs_short ks; omega) hks wz F G a c ca cc vs1 vs2 (hc1.ext ez) (exEnc.exts hq1 ez) (hc2.ext ez) (exEnc.exts hq2 ez)
  clear hc1 hc2 hq1 hq2 hks h
  cases b with
  | false =>
    go_enter Tryz.func69, Tryz.ntmps69
    go_wp2_with fail
    refine (HC.out _ (((Ext.refl w).alloc _).alloc _)).mono ?_
    rintro e w3 ⟨rfl, e3⟩
    go_wp2_with fail
    go_ret
    exact ⟨rfl, (((Ext.refl w).alloc _).alloc _).trans e3⟩
  | true =>
    obtain rfl := hpq rfl
    go_enter Tryz.func69, Tryz.ntmps69
    go_wp2_with fail
    refine (HC.out _ (((Ext.refl w).alloc _).alloc _)).mono ?_
    rintro e w3 ⟨rfl, e3⟩
    go_wp2_with fail
    go_ret
    exact ⟨rfl, (((Ext.refl w).alloc _).alloc _).trans e3⟩
theorem sameE_any (b : Bool) : ∀ k, k ≤ 100000 → SameEC b k
  | 0, _ => fun x y hx => by have := x.size_pos; omega
  | k + 1, hk => sameE_step (sameE_any b k (by omega)) (by omega)
/-- sameExprs says so of rows that are alike. -/
theorem sameEs_any (b : Bool) (l m : List Ex) (hz : Ex.sizes l ≤ 100000) (hal : Ex.ons b l = Ex.ons b m) (w : World) (F G : Nat → Prop) (a c : Option Addr) (ca cc : Nat) (ks js : List Value)
    (h1 : CellsIn w F a ks) (q1 : exEnc.all w F l ks) (h2 : CellsIn w G c js) (q2 : exEnc.all w G m js) :
    Calls Tryz.prog 40 #[.slice a l.length ca, .slice c m.length cc, .bool b] w fun e w' => e = .returned (.bool true) ∧ Ext w w' :=
  sameEs_of (sameE_any b 100000 (Nat.le_refl _)) l m (fun x hx => Nat.le_trans (exs_mem hx) hz) (Nat.le_trans (exs_short l) hz) hal w F G a c ca cc ks js h1 q1 h2 q2
end Go.Proofs.YtaehlakefgnfmaaGreatDoor
namespace Go.Proofs.YtaehlakefgnfmaaGreatDoor
set_option linter.unusedSimpArgs false
set_option linter.unusedVariables false
set_option maxRecDepth 100000
open Go.RowKit

theorem st_on {b : Bool} {x y : St} (h : x.on b = y.on b) : ∃ op text es bd el es' bd' el' p q, x = .mk op text es bd el p ∧ y = .mk op text es' bd' el' q ∧ Ex.ons b es = Ex.ons b es' ∧ St.ons b bd = St.ons b bd' ∧ St.ons b el = St.ons b el' ∧ (b = true → p = q) := by
  cases x with
  | mk op text es bd el p =>
    cases y with
    | mk op' text' es' bd' el' q =>
      simp only [St.on, St.mk.injEq] at h
      obtain ⟨rfl, rfl, h1, h2, h3, h5⟩ := h
      exact ⟨_, _, _, _, _, _, _, _, _, _, rfl, rfl, h1, h2, h3, fun hb => by rw [hb] at h5; exact h5⟩
theorem both_cells {w w3 : World} {vs us : List Value} {t : TypeId} (e : Ext ((w.alloc (.cells vs.toArray t)).alloc (.cells us.toArray t)) w3) :
    (∀ (i : Nat) v, vs[i]? = some v → w3.cell? ⟨w.heap.size, i, none⟩ = some v) ∧ ∀ (i : Nat) v, us[i]? = some v → w3.cell? ⟨w.heap.size + 1, i, none⟩ = some v :=
  ⟨fun i v h => e.cell (((Ext.refl _).alloc _).cell (by rw [(Blk.new w t vs).cell i, h])), fun i v h => e.cell (by
    have := (Blk.new (w.alloc (.cells vs.toArray t)) t us).cell i
    rw [World.size_alloc] at this
    rw [this, h])⟩
/-- sameStmts says so of rows that are alike and no greater. -/
def SameSC (b : Bool) (k : Nat) : Prop := ∀ (l m : List St), St.sizes l ≤ k → St.ons b l = St.ons b m → ∀ (w : World) (F G : Nat → Prop) (a c : Option Addr) (ca cc : Nat) (ks js : List Value), CellsIn w F a ks → stEnc.all w F l ks → CellsIn w G c js → stEnc.all w G m js →
  Calls Tryz.prog 14 #[.slice a l.length ca, .slice c m.length cc, .bool b] w fun e w' => e = .returned (.bool true) ∧ Ext w w'
set_option maxHeartbeats 8000000 in
theorem sameS_step {b : Bool} {k : Nat} (h : SameSC b k) (hk : k < 100000) : SameSC b (k + 1) := by
  intro l m hlz hal w F G a c ca cc ks js h1 q1 h2 q2
  obtain ⟨hlm, hat⟩ := sts_alike hal
  have hml : m.length = l.length := hlm.symm
  have hlen : l.length ≤ 100000 := by have := sts_short l; omega
  have HA := hid hat
  have HM := hid hlm
  have HH := hid h
  clear hat hal hlm h
  rw [hml]
  go_enter Tryz.func14, Tryz.ntmps14
  go_wp2_with fail
  go_loopw [7, 8, 9] (fun i _ _ wr => ∃ j : Nat, j ≤ l.length ∧ i = .int .i64 j ∧ Ext w wr) (fun i _ _ _ => l.length - (intOf i).toNat)
  case atStart => exact ⟨0, Nat.zero_le _, rfl, Ext.refl _⟩
  case round =>
    obtain ⟨j, hj, rfl, he⟩ := hrel
    by_cases hlt : j < l.length
    · have hltm : j < m.length := by omega
      obtain ⟨b1, o1, vs, rfl, e1, f1⟩ := elem_at stEnc (by decide) st_cons (h1.ext he) (stEnc.exts q1 he) hlt
      obtain ⟨b2, o2, us, rfl, e2, f2⟩ := elem_at stEnc (by decide) st_cons (h2.ext he) (stEnc.exts q2 he) hltm
      have hsz : l[j].size ≤ k + 1 := Nat.le_trans (sts_mem (List.getElem_mem hlt)) hlz
      obtain ⟨op, text, es, bd, el, es', bd', el', p, q, hx, hy, x1, x2, x3, hpq⟩ := st_on (HA.out j hlt hltm)
      rw [hx] at e1 hsz
      rw [hy] at e2
      simp only [stEnc, StIs] at e1 e2
      obtain ⟨ve, vb, vl, rfl, ⟨ea, ec, eks, rfl, hec, e11, e12⟩, ⟨ba, bc, bks, rfl, hbc, e13, e14⟩, ⟨la, lc, lks, rfl, hlc, e15, e16⟩⟩ := e1
      obtain ⟨ve', vb', vl', rfl, ⟨ea', ec', eks', rfl, hec', e21, e22⟩, ⟨ba', bc', bks', rfl, hbc', e23, e24⟩, ⟨la', lc', lks', rfl, hlc', e25, e26⟩⟩ := e2
      simp only [St.size] at hsz
      have c0 := f1 0 _ rfl
      have c1 := f1 1 _ rfl
      have c2 := f1 2 _ rfl
      have c3 := f1 3 _ rfl
      have c4 := f1 4 _ rfl
      have c5 := f1 5 _ rfl
      have hE : Ext wr (wr.alloc (.cells #[.int .i64 op, .string ⟨text.toArray⟩, .slice ea es.length ec, .slice ba bd.length bc, .slice la el.length lc, .int .i64 p] 78)) := (Ext.refl _).alloc _
      have d0 := hE.cell (f2 0 _ rfl)
      have d1 := hE.cell (f2 1 _ rfl)
      have d2 := hE.cell (f2 2 _ rfl)
      have d3 := hE.cell (f2 3 _ rfl)
      have d4 := hE.cell (f2 4 _ rfl)
      have d5 := hE.cell (f2 5 _ rfl)
      simp only [stEnc, Nat.add_zero] at c0 c1 c2 c3 c4 c5 d0 d1 d2 d3 d4 d5
      have C1 := hid fun (wz : World) (ez : Ext wr wz) => sameEs_any b es es' (by omega) x1 wz F G ea ea' ec ec' eks eks' (e11.ext ez) (exEnc.exts e12 ez) (e21.ext ez) (exEnc.exts e22 ez)
      have C2 := hid fun (wz : World) (ez : Ext wr wz) => HH.out bd bd' (by omega) x2 wz F G ba ba' bc bc' bks bks' (e13.ext ez) (stEnc.exts e14 ez) (e23.ext ez) (stEnc.exts e24 ez)
      have C3 := hid fun (wz : World) (ez : Ext wr wz) => HH.out el el' (by omega) x3 wz F G la la' lc lc' lks lks' (e15.ext ez) (stEnc.exts e16 ez) (e25.ext ez) (stEnc.exts e26 ez)
      clear f1 f2 e11 e12 e13 e14 e15 e16 e21 e22 e23 e24 e25 e26 x1 x2 x3 hx hy
      cases b with
      | false =>
        go_wp2_with fail
        refine (C1.out _ (((Ext.refl wr).alloc _).alloc _)).mono ?_
        rintro e w3 ⟨rfl, e3⟩
        obtain ⟨p3, q3⟩ := both_cells e3
        have p33 := p3 3 _ rfl
        have q33 := q3 3 _ rfl
        have E3 : Ext wr w3 := (((Ext.refl wr).alloc _).alloc _).trans e3
        clear p3 q3
        go_wp2_with fail
        refine (C2.out _ E3).mono ?_
        rintro e w4 ⟨rfl, e4⟩
        obtain ⟨p4, q4⟩ := both_cells (e3.trans e4)
        have p44 := p4 4 _ rfl
        have q44 := q4 4 _ rfl
        have E4 : Ext wr w4 := E3.trans e4
        clear p4 q4 p33 q33
        go_wp2_with fail
        refine (C3.out _ E4).mono ?_
        rintro e w5 ⟨rfl, e5⟩
        have E5 : Ext w w5 := he.trans (E4.trans e5)
        go_wp2_with fail
        exact ⟨⟨j + 1, by omega, by go_num, E5⟩, by simp [intOf]; omega⟩
      | true =>
        obtain rfl := hpq rfl
        go_wp2_with fail
        refine (C1.out _ (((Ext.refl wr).alloc _).alloc _)).mono ?_
        rintro e w3 ⟨rfl, e3⟩
        obtain ⟨p3, q3⟩ := both_cells e3
        have p33 := p3 3 _ rfl
        have q33 := q3 3 _ rfl
        have E3 : Ext wr w3 := (((Ext.refl wr).alloc _).alloc _).trans e3
        clear p3 q3
        go_wp2_with fail
        refine (C2.out _ E3).mono ?_
        rintro e w4 ⟨rfl, e4⟩
        obtain ⟨p4, q4⟩ := both_cells (e3.trans e4)
        have p44 := p4 4 _ rfl
        have q44 := q4 4 _ rfl
        have E4 : Ext wr w4 := E3.trans e4
        clear p4 q4 p33 q33
        go_wp2_with fail
        refine (C3.out _ E4).mono ?_
        rintro e w5 ⟨rfl, e5⟩
        have E5 : Ext w w5 := he.trans (E4.trans e5)
        go_wp2_with fail
        exact ⟨⟨j + 1, by omega, by go_num, E5⟩, by simp [intOf]; omega⟩
    · go_wp2_with fail
      go_ret
      exact ⟨rfl, he⟩
theorem sameS_any (b : Bool) : ∀ k, k ≤ 100000 → SameSC b k
  | 0, _ => fun l m hl hal w F G a c ca cc ks js h1 q1 h2 q2 => by
    have : l = [] := by
      cases l with
      | nil => rfl
      | cons x l => have := x.size_pos; simp only [St.sizes] at hl; omega
    subst this
    have hm : m = [] := by
      have := (sts_alike hal).1
      exact List.eq_nil_of_length_eq_zero this.symm
    subst hm
    go_enter Tryz.func14, Tryz.ntmps14
    go_wp2_with fail
    go_loopw [7, 8, 9] (fun i _ _ wr => i = .int .i64 0 ∧ Ext w wr) (fun i _ _ _ => 0)
    case atStart => exact ⟨rfl, Ext.refl _⟩
    case round =>
      obtain ⟨rfl, he⟩ := hrel
      go_wp2_with fail
      go_ret
      exact ⟨rfl, he⟩
  | k + 1, hk => sameS_step (sameS_any b k (by omega)) (by omega)
end Go.Proofs.YtaehlakefgnfmaaGreatDoor
namespace Go.Proofs.YtaehlakefgnfmaaGreatDoor
set_option linter.unusedSimpArgs false
set_option linter.unusedVariables false
set_option maxRecDepth 100000
open Go.RowKit

theorem Ext.drewN {a w : World} (h : Ext a w) (n : Nat) : Ext a (w.drewN n) := Keep.ext (Keep.drewN (Keep.ofExt h) n)
theorem fu_on {b : Bool} {x y : Fu} (h : x.on b = y.on b) : ∃ nm ps rs bd bd' p q, x = ⟨nm, ps, rs, bd, p⟩ ∧ y = ⟨nm, ps, rs, bd', q⟩ ∧ St.ons b bd = St.ons b bd' ∧ (b = true → p = q) := by
  obtain ⟨nm, ps, rs, bd, p⟩ := x
  obtain ⟨nm', ps', rs', bd', q⟩ := y
  simp only [Fu.on, Fu.mk.injEq] at h
  obtain ⟨rfl, rfl, rfl, h4, h5⟩ := h
  exact ⟨_, _, _, _, _, _, _, rfl, rfl, h4, fun hb => by rw [hb] at h5; exact h5⟩
theorem fusz_mem {x : Fu} {l : List Fu} (h : x ∈ l) : x.size ≤ sumOf Fu.size l := by
  induction l with
  | nil => cases h
  | cons y l ih =>
    simp only [sumOf]
    rcases List.mem_cons.1 h with rfl | h
    · omega
    · have := ih h; omega
theorem fusz_len (l : List Fu) : l.length ≤ sumOf Fu.size l := by
  induction l with
  | nil => simp [sumOf]
  | cons y l ih => have := y.size_pos; simp only [sumOf, List.length_cons]; omega
set_option maxHeartbeats 16000000 in
theorem same_true (b : Bool) (l m : List Fu) (hz : sumOf Fu.size l ≤ 100000) (hal : l.map (Fu.on b) = m.map (Fu.on b)) (w : World) (F G : Nat → Prop) (a c : Option Addr) (ca cc : Nat)
    (h1 : RowIs w F (.slice a l.length ca) l.length (FusIs w F l)) (h2 : RowIs w G (.slice c m.length cc) m.length (FusIs w G m)) :
    Calls Tryz.prog 7 #[.agg #[.slice a l.length ca], .agg #[.slice c m.length cc], .bool b] w fun e w' => e = .returned (.bool true) ∧ Ext w w' := by
  obtain ⟨a', ca', ks, hv, hca, h1, q1⟩ := h1
  cases hv
  obtain ⟨c', cc', js, hv, hcc, h2, q2⟩ := h2
  cases hv
  obtain ⟨hlm, hat⟩ := map_alike hal
  have hml : m.length = l.length := hlm.symm
  have hlen : l.length ≤ 100000 := Nat.le_trans (fusz_len l) hz
  have HA := hid hat
  have HM := hid hlm
  clear hat hal hlm
  rw [hml]
  go_enter Tryz.func7, Tryz.ntmps7
  go_wp2_with fail
  go_loopw [7, 8, 9, 10] (fun i _ _ _ wr => ∃ j : Nat, j ≤ l.length ∧ i = .int .i64 j ∧ Ext ((w.alloc (.cells #[.slice a l.length ca] 26)).alloc (.cells #[.slice c l.length cc] 26)) wr) (fun i _ _ _ _ => l.length - (intOf i).toNat)
  case atStart => exact ⟨0, Nat.zero_le _, rfl, Ext.refl _⟩
  case round =>
    obtain ⟨j, hj, rfl, he⟩ := hrel
    have hew : Ext w wr := (((Ext.refl w).alloc _).alloc _).trans he
    obtain ⟨pb, qb⟩ := both_cells he
    have pb0 := pb 0 _ rfl
    have qb0 := qb 0 _ rfl
    clear pb qb
    by_cases hlt : j < l.length
    · have hltm : j < m.length := by omega
      obtain ⟨b1, o1, vs, rfl, e1, f1⟩ := elem_at fuEnc (by decide) fu_cons (h1.ext hew) (fuEnc.exts q1 hew) hlt
      obtain ⟨b2, o2, us, rfl, e2, f2⟩ := elem_at fuEnc (by decide) fu_cons (h2.ext hew) (fuEnc.exts q2 hew) hltm
      have hsz : l[j].size ≤ 100000 := Nat.le_trans (fusz_mem (List.getElem_mem hlt)) hz
      obtain ⟨nm, ps, rs, bd, bd', p, q, hx, hy, x2, hpq⟩ := fu_on (HA.out j hlt hltm)
      rw [hx] at e1 hsz
      rw [hy] at e2
      simp only [fuEnc, FuIs] at e1 e2
      obtain ⟨vp, vb, rfl, ⟨pa, pc, pks, rfl, hpc, e11, e12⟩, ⟨ba, bc, bks, rfl, hbc, e13, e14⟩⟩ := e1
      obtain ⟨vp', vb', rfl, ⟨pa', pc', pks', rfl, hpc', e21, e22⟩, ⟨ba', bc', bks', rfl, hbc', e23, e24⟩⟩ := e2
      simp only [Fu.size] at hsz
      have c0 := f1 0 _ rfl
      have c1 := f1 1 _ rfl
      have c2 := f1 2 _ rfl
      have c3 := f1 3 _ rfl
      have c4 := f1 4 _ rfl
      have hE : Ext wr (wr.alloc (.cells #[.string ⟨nm.toArray⟩, .slice pa ps.length pc, .int .i64 rs, .slice ba bd.length bc, .int .i64 p] 36)) := (Ext.refl _).alloc _
      have d0 := hE.cell (f2 0 _ rfl)
      have d1 := hE.cell (f2 1 _ rfl)
      have d2 := hE.cell (f2 2 _ rfl)
      have d3 := hE.cell (f2 3 _ rfl)
      have d4 := hE.cell (f2 4 _ rfl)
      have qb1 := hE.cell qb0
      simp only [fuEnc, Nat.add_zero] at c0 c1 c2 c3 c4 d0 d1 d2 d3 d4
      have C2 := hid fun (wz : World) (ez : Ext wr wz) => sameS_any b 100000 (Nat.le_refl _) bd bd' (by omega) x2 wz F G ba ba' bc bc' bks bks' (e13.ext ez) (stEnc.exts e14 ez) (e23.ext ez) (stEnc.exts e24 ez)
      clear f1 f2 e13 e14 e23 e24 x2 hx hy
      have hps : ps.length ≤ 100000 := by omega
      cases b with
      | false =>
        go_wp2_with fail
        refine (C2.out _ (((Ext.refl wr).alloc _).alloc _)).mono ?_
        rintro e w3 ⟨rfl, e3⟩
        obtain ⟨p3, q3⟩ := both_cells e3
        have E3 : Ext wr w3 := (((Ext.refl wr).alloc _).alloc _).trans e3
        clear c0 c1 c2 c3 c4 d0 d1 d2 d3 d4 qb1 pb0 qb0
        have p31 := p3 1 _ rfl
        have q31 := q3 1 _ rfl
        clear p3 q3
        go_wp2_with fail
        go_loopw [10] (fun v wr2 => ∃ k : Nat, k ≤ ps.length ∧ v = .int .i64 k ∧ Ext w3 wr2) (fun v _ => ps.length - (intOf v).toNat)
        case atStart => exact ⟨0, Nat.zero_le _, rfl, Ext.refl _⟩
        case round =>
          obtain ⟨k, hk, rfl, he2⟩ := hrel
          have p32 := he2.cell p31
          have q32 := he2.cell q31
          have E32 := E3.trans he2
          by_cases hklt : k < ps.length
          · obtain ⟨b3, o3, xs, rfl, e3x, f3⟩ := elem_at paEnc (by decide) pa_cons (e11.ext E32) (show paEnc.all _ _ ps _ from e12) hklt
            obtain ⟨b4, o4, ys, rfl, e4x, f4⟩ := elem_at paEnc (by decide) pa_cons (e21.ext E32) (show paEnc.all _ _ ps _ from e22) hklt
            obtain rfl : xs = paCells ps[k] := e3x
            obtain rfl : ys = paCells ps[k] := e4x
            have g0 := f3 0 _ rfl
            have g1 := f3 1 _ rfl
            have g2 := f4 0 _ rfl
            have g3 := f4 1 _ rfl
            simp only [paEnc, Nat.add_zero] at g0 g1 g2 g3
            clear f3 f4 p31 q31
            go_wp2_with fail
            go_quiet (fail)
            go_wp2_with fail
            exact ⟨⟨k + 1, by omega, by go_num, he2.drewN _⟩, by simp [intOf]; omega⟩
          · go_wp2_with fail
            exact ⟨⟨j + 1, by omega, by go_num, he.trans E32⟩, by simp [intOf]; omega⟩
      | true =>
        obtain rfl := hpq rfl
        go_wp2_with fail
        refine (C2.out _ (((Ext.refl wr).alloc _).alloc _)).mono ?_
        rintro e w3 ⟨rfl, e3⟩
        obtain ⟨p3, q3⟩ := both_cells e3
        have E3 : Ext wr w3 := (((Ext.refl wr).alloc _).alloc _).trans e3
        clear c0 c1 c2 c3 c4 d0 d1 d2 d3 d4 qb1 pb0 qb0
        have p31 := p3 1 _ rfl
        have q31 := q3 1 _ rfl
        clear p3 q3
        go_wp2_with fail
        go_loopw [10] (fun v wr2 => ∃ k : Nat, k ≤ ps.length ∧ v = .int .i64 k ∧ Ext w3 wr2) (fun v _ => ps.length - (intOf v).toNat)
        case atStart => exact ⟨0, Nat.zero_le _, rfl, Ext.refl _⟩
        case round =>
          obtain ⟨k, hk, rfl, he2⟩ := hrel
          have p32 := he2.cell p31
          have q32 := he2.cell q31
          have E32 := E3.trans he2
          by_cases hklt : k < ps.length
          · obtain ⟨b3, o3, xs, rfl, e3x, f3⟩ := elem_at paEnc (by decide) pa_cons (e11.ext E32) (show paEnc.all _ _ ps _ from e12) hklt
            obtain ⟨b4, o4, ys, rfl, e4x, f4⟩ := elem_at paEnc (by decide) pa_cons (e21.ext E32) (show paEnc.all _ _ ps _ from e22) hklt
            obtain rfl : xs = paCells ps[k] := e3x
            obtain rfl : ys = paCells ps[k] := e4x
            have g0 := f3 0 _ rfl
            have g1 := f3 1 _ rfl
            have g2 := f4 0 _ rfl
            have g3 := f4 1 _ rfl
            simp only [paEnc, Nat.add_zero] at g0 g1 g2 g3
            clear f3 f4 p31 q31
            go_wp2_with fail
            go_quiet (fail)
            go_wp2_with fail
            exact ⟨⟨k + 1, by omega, by go_num, he2.drewN _⟩, by simp [intOf]; omega⟩
          · go_wp2_with fail
            exact ⟨⟨j + 1, by omega, by go_num, he.trans E32⟩, by simp [intOf]; omega⟩
    · go_wp2_with fail
      go_ret
      exact ⟨rfl, hew⟩
end Go.Proofs.YtaehlakefgnfmaaGreatDoor
