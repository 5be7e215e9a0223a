/-
  DERIVED. THE WALKS of joined, at its four types (printed by gen_join.py).
-/
import Derived.Test.YtaehlakefgnfmaaGreatDoorParse0
import Derived.Test.YtaehlakefgnfmaaGreatDoorShowP
import Derived.Test.YtaehlakefgnfmaaGreatDoorShelfS
namespace Go.Proofs.YtaehlakefgnfmaaGreatDoor
set_option linter.unusedSimpArgs false
set_option linter.unusedVariables false
set_option maxRecDepth 100000
open Go.RowKit

theorem Tryz.infoStr : (Tryz.prog.info? 9).map (fun i => (i.zero, i.size, i.bytes)) = some (some (.string ⟨#[]⟩), 1, 16) := by kernel_rfl
/-- The cells of the i-th thing of a row. -/
theorem enc_nth {α : Type} (E : Enc α) {w : World} {F : Nat → Prop} (hcons : ∀ x l ks, E.all w F (x :: l) ks → ∃ v1 v2, ks = v1 ++ v2 ∧ E.one w F x v1 ∧ E.all w F l v2) :
    ∀ (l : List α) (ks : List Value), E.all w F l ks → ∀ i (h : i < l.length), ∃ vs, E.one w F l[i] vs ∧ ∀ j v, vs[j]? = some v → ks[i * E.size + j]? = some v := by
  intro l
  induction l with
  | nil => intro ks _ i h; simp at h
  | cons x l ih =>
    intro ks hk i h
    obtain ⟨v1, v2, rfl, h1, h2⟩ := hcons x l ks hk
    have hl := E.len h1
    cases i with
    | zero =>
      refine ⟨v1, h1, fun j v hv => ?_⟩
      rw [Nat.zero_mul, Nat.zero_add, List.getElem?_append_left (List.getElem?_eq_some_iff.1 hv).1, hv]
    | succ i =>
      obtain ⟨vs, h3, h4⟩ := ih v2 h2 i (by simpa using h)
      refine ⟨vs, h3, fun j v hv => ?_⟩
      rw [List.getElem?_append_right (by rw [hl, Nat.succ_mul]; omega), hl, show (i + 1) * E.size + j - E.size = i * E.size + j by rw [Nat.succ_mul]; omega]
      exact h4 j v hv
theorem ex_cons {w : World} {F : Nat → Prop} (x : Ex) (l : List Ex) (ks : List Value) (h : exEnc.all w F (x :: l) ks) : ∃ v1 v2, ks = v1 ++ v2 ∧ exEnc.one w F x v1 ∧ exEnc.all w F l v2 := by
  simp only [exEnc, ExsIs] at h ⊢; exact h
theorem st_cons {w : World} {F : Nat → Prop} (x : St) (l : List St) (ks : List Value) (h : stEnc.all w F (x :: l) ks) : ∃ v1 v2, ks = v1 ++ v2 ∧ stEnc.one w F x v1 ∧ stEnc.all w F l v2 := by
  simp only [stEnc, StsIs] at h ⊢; exact h
theorem fu_cons {w : World} {F : Nat → Prop} (x : Fu) (l : List Fu) (ks : List Value) (h : fuEnc.all w F (x :: l) ks) : ∃ v1 v2, ks = v1 ++ v2 ∧ fuEnc.one w F x v1 ∧ fuEnc.all w F l v2 := by
  simp only [fuEnc, FusIs] at h ⊢; exact h
theorem pa_cons {w : World} {F : Nat → Prop} (x : Pa) (l : List Pa) (ks : List Value) (h : paEnc.all w F (x :: l) ks) : ∃ v1 v2, ks = v1 ++ v2 ∧ paEnc.one w F x v1 ∧ paEnc.all w F l v2 := by
  simp only [paEnc, PasIs] at h ⊢
  exact ⟨paCells x, l.flatMap paCells, by rw [h]; rfl, rfl, rfl⟩
theorem elem_at {α : Type} (E : Enc α) (hs : 0 < E.size) {w : World} {F : Nat → Prop} (hcons : ∀ x l ks, E.all w F (x :: l) ks → ∃ v1 v2, ks = v1 ++ v2 ∧ E.one w F x v1 ∧ E.all w F l v2) {l : List α} {ks : List Value} {a : Option Addr}
    (hc : CellsIn w F a ks) (hq : E.all w F l ks) {i : Nat} (h : i < l.length) : ∃ b off vs, a = some ⟨b, off, none⟩ ∧ E.one w F l[i] vs ∧ ∀ j v, vs[j]? = some v → w.cell? ⟨b, off + i * E.size + j, none⟩ = some v := by
  obtain ⟨vs, h1, h2⟩ := enc_nth E hcons l ks hq i h
  have hl := E.len h1
  obtain ⟨v0, hv0⟩ : ∃ v, vs[0]? = some v := ⟨vs[0], by simp⟩
  obtain ⟨b, off, rfl, _, _⟩ := hc _ _ (h2 0 v0 hv0)
  refine ⟨b, off, vs, rfl, h1, fun j v hv => ?_⟩
  obtain ⟨b', off', hb, _, hcell⟩ := hc _ _ (h2 j v hv)
  simp only [Option.some.injEq, Addr.mk.injEq, and_true] at hb
  obtain ⟨rfl, rfl⟩ := hb
  rw [Nat.add_assoc]
  exact hcell
/-- A function value that gives a thing's text. -/
def TextC {α : Type} (f : FuncId) (E : Enc α) (txt : α → List UInt8) (w : World) (F : Nat → Prop) (x : α) : Prop :=
  ∀ w' vs, Ext w w' → E.one w' F x vs → Calls Tryz.prog f #[.agg vs.toArray] w' fun e w'' => e = .returned (.string ⟨(txt x).toArray⟩) ∧ Ext w' w''
theorem Enc.ext {α : Type} (E : Enc α) {w w' : World} {F : Nat → Prop} {x : α} {vs : List Value} (h : E.one w F x vs) (e : Ext w w') : E.one w' F x vs :=
  E.carry (Carry.keep (.ofExt e : Keep [] w w') (by simp) fun _ _ h => h) _ _ h
theorem Enc.exts {α : Type} (E : Enc α) {w w' : World} {F : Nat → Prop} {x : List α} {vs : List Value} (h : E.all w F x vs) (e : Ext w w') : E.all w' F x vs :=
  E.carries (Carry.keep (.ofExt e : Keep [] w w') (by simp) fun _ _ h => h) _ _ h
theorem CellsIn.ext {w w' : World} {F : Nat → Prop} {a : Option Addr} {vs : List Value} (h : CellsIn w F a vs) (e : Ext w w') : CellsIn w' F a vs := h.keep (.ofExt e : Keep [] w w') (by simp)
theorem take_snocS (l : List (List UInt8)) (k : Nat) (h : k < l.length) : (l.take (k + 1)).map strW = (l.take k).map strW ++ [strW l[k]] := by
  rw [List.take_succ_eq_append_getElem h, List.map_append]; rfl
/-- strings.Join of such a row. -/
theorem join_row (w : World) (base : Nat) (v : Value) (l : List (List UInt8)) (sep : List UInt8) (hn : l.length ≤ 100000) (hown : w.ownsRow base 9 1 v l.length (l.map strW)) (hlen : (Lib.join l sep).length ≤ 140737488355328) :
    Calls Tryz.prog 41 #[v, .string ⟨sep.toArray⟩] w fun e w' => e = .returned (.string ⟨(Lib.join l sep).toArray⟩) ∧ Ext w w' := by
  rcases hown with ⟨hl, ⟨rfl, h0⟩ | ⟨g, cap, cur, rfl, hb, hg, hnc, hcm, hcs, htake⟩⟩
  · have : l = [] := List.eq_nil_of_length_eq_zero h0
    subst this
    refine (Tryz.strings_Join_none none 0 ⟨sep.toArray⟩ w).mono ?_
    rintro e w' ⟨rfl, rfl⟩
    exact ⟨rfl, Ext.refl _⟩
  · have hlt : g < w.heap.size := (Array.getElem?_eq_some_iff.1 hg).1
    have e1 : (l.map fun s => (⟨s.toArray⟩ : ByteArray)).map (·.data.toList) = l := by
      rw [List.map_map]
      show l.map (fun s => s.toArray.toList) = l
      simp
    have := Tryz.strings_Join g 0 cap (l.map fun s => (⟨s.toArray⟩ : ByteArray)) ⟨sep.toArray⟩ w (fun j x hx => by
      rw [List.getElem?_map] at hx
      obtain ⟨s, hs, rfl⟩ := Option.map_eq_some_iff.1 hx
      have hj : j < l.length := (List.getElem?_eq_some_iff.1 hs).1
      have h1 : (l.map strW)[j]? = some (.string ⟨s.toArray⟩) := by rw [List.getElem?_map, hs]; rfl
      rw [← htake, List.getElem?_take] at h1
      split at h1
      · simp only [World.cell?, hg, Nat.zero_add]
        simpa using h1
      · cases h1) hlt (by simp; omega) (by simpa using hnc) (by rw [e1]; exact hlen)
    rw [e1] at this
    simp only [List.length_map] at this
    exact this

theorem ex_form {w : World} {F : Nat → Prop} {x : Ex} {vs : List Value} (h : exEnc.one w F x vs) : ∃ (op num : Nat) (text : List UInt8) (ka : Option Addr) (kn kc at_ : Nat), vs = [.int .i64 op, .int .i64 num, .string ⟨text.toArray⟩, .slice ka kn kc, .int .i64 at_] := by
  cases x
  simp only [exEnc, ExIs] at h
  obtain ⟨v, rfl, a, c, ks, rfl, _⟩ := h
  exact ⟨_, _, _, _, _, _, _, rfl⟩
theorem st_form {w : World} {F : Nat → Prop} {x : St} {vs : List Value} (h : stEnc.one w F x vs) : ∃ (op : Nat) (text : List UInt8) (ea : Option Addr) (en ec : Nat) (ba : Option Addr) (bn bc : Nat) (la : Option Addr) (ln lc at_ : Nat), vs = [.int .i64 op, .string ⟨text.toArray⟩, .slice ea en ec, .slice ba bn bc, .slice la ln lc, .int .i64 at_] := by
  cases x
  simp only [stEnc, StIs] at h
  obtain ⟨ve, vb, vl, rfl, ⟨ea, ec, eks, rfl, _⟩, ⟨ba, bc, bks, rfl, _⟩, ⟨la, lc, lks, rfl, _⟩⟩ := h
  exact ⟨_, _, _, _, _, _, _, _, _, _, _, _, rfl⟩
theorem fu_form {w : World} {F : Nat → Prop} {x : Fu} {vs : List Value} (h : fuEnc.one w F x vs) : ∃ (nm : List UInt8) (pa : Option Addr) (pn pc rs : Nat) (ba : Option Addr) (bn bc at_ : Nat), vs = [.string ⟨nm.toArray⟩, .slice pa pn pc, .int .i64 rs, .slice ba bn bc, .int .i64 at_] := by
  obtain ⟨vp, vb, rfl, ⟨pa, pc, pks, rfl, _⟩, ⟨ba, bc, bks, rfl, _⟩⟩ := h
  exact ⟨_, _, _, _, _, _, _, _, _, rfl⟩
theorem pa_form {w : World} {F : Nat → Prop} {x : Pa} {vs : List Value} (h : paEnc.one w F x vs) : ∃ (nm : List UInt8) (ty : Nat), vs = [.string ⟨nm.toArray⟩, .int .i64 ty] := ⟨x.name, x.type, h⟩

set_option maxHeartbeats 4000000 in
theorem joinE_any (w : World) (a : Option Addr) (cap : Nat) (l : List Ex) (F : Nat → Prop) (ks : List Value) (hcap : l.length ≤ cap) (hc : CellsIn w F a ks) (hq : exEnc.all w F l ks) (sep : List UInt8) (f : FuncId) (txt : Ex → List UInt8)
    (hent : ∀ args w', (callFunc f args).run Tryz.prog w' = .ok (.enter f args) w') (hf : ∀ x ∈ l, TextC f exEnc txt w F x) (hn : l.length ≤ 100000) (hlen : (Lib.join (l.map txt) sep).length ≤ 140737488355328) :
    Calls Tryz.prog 96 #[.slice a l.length cap, .string ⟨sep.toArray⟩, .func (.func f) #[] #[]] w fun e w' => e = .returned (.string ⟨(Lib.join (l.map txt) sep).toArray⟩) ∧ Ext w w' := by
  obtain ⟨i0, hi0, hz0, hz1, hz2⟩ := info_parts Tryz.infoStr
  have HF := hid hf
  have HL := hid hlen
  clear hf hlen
  go_enter Tryz.func96, Tryz.ntmps96
  go_wp2_with fail
  go_loopw [7, 12] (fun v i wr => ∃ k : Nat, k ≤ l.length ∧ i = .int .i64 k ∧ Ext w wr ∧ wr.ownsRow w.heap.size 9 1 v k (((l.map txt).take k).map strW)) (fun _ i _ => l.length - (intOf i).toNat)
  case atStart => exact ⟨0, Nat.zero_le _, rfl, Ext.refl _, World.ownsRow_nil _ _ _ _⟩
  case round =>
    obtain ⟨k, hk, rfl, he, hown⟩ := hrel
    obtain ⟨va, vc, hv, _, _, _⟩ := owned_cells hown
    subst hv
    by_cases hlt : k < l.length
    · obtain ⟨b, off, vs, rfl, h1, h2⟩ := elem_at exEnc (by decide) ex_cons (hc.ext he) (exEnc.exts hq he) hlt
      obtain ⟨op, num, text, ka, kn, kc, at_, rfl⟩ := ex_form h1
      have d0 := h2 0 _ rfl
      have d1 := h2 1 _ rfl
      have d2 := h2 2 _ rfl
      have d3 := h2 3 _ rfl
      have d4 := h2 4 _ rfl
      simp only [exEnc, Nat.add_zero] at d0 d1 d2 d3 d4
      have HT := hid (HF.out l[k] (List.getElem_mem hlt))
      have H1 := hid h1
      have HO := hid hown
      clear h1 h2 hown
      go_wp2_with fail
      refine (HT.out _ _ (he.alloc _) (exEnc.ext H1.out ((Ext.refl _).alloc _))).mono ?_
      rintro e w3 ⟨rfl, e3⟩
      have hown3 := ((ownsRow_ext HO.out ((Ext.refl wr).alloc _)) |> fun h => ownsRow_ext h e3).alloc (.cells #[.string ⟨(txt l[k]).toArray⟩] 9)
      have he3 := (he.alloc _).trans e3
      have hsz3 := he3.size
      go_wp2_with (at_builtin; refine wpList_append_own _ rfl _ _ 80 rfl w.heap.size 9 i0 (.string ⟨#[]⟩) 1 16 Tryz.underlying80 hi0 hz0 hz1 hz2 rfl (by decide) _ _ _ rfl hown3 ⟨w3.heap.size, 0, none⟩ 1 1 [.string ⟨(txt l[k]).toArray⟩] rfl rfl ?c1 ?c2 ?c3 ?c4 ?c5 ?_)
      case c1 => exact news_cells _ _ _ _ rfl
      case c2 => simp [Value.oneCell']
      case c3 => simp only [maxLen]; omega
      case c4 => omega
      case c5 => simp; omega
      intro v' w4 hown4 hgr _
      have e4 : Ext w w4 := (he3.alloc _).grown hown3 (Nat.le_refl _) hgr
      have hown5 : w4.ownsRow w.heap.size 9 1 v' (k + 1) (((l.map txt).take (k + 1)).map strW) := by
        rw [take_snocS _ k (by simpa using hlt)]
        simpa [strW] using hown4
      clear hown4 hown3 hgr
      have HO5 := hid hown5
      clear hown5
      go_wp2_with fail
      go_roundw
      case rel => exact ⟨k + 1, by omega, by go_num, e4, HO5.out⟩
      case measure => simp [intOf]; omega
    · obtain rfl : k = l.length := by omega
      have hown' : wr.ownsRow w.heap.size 9 1 (.slice va l.length vc) (l.map txt).length ((l.map txt).map strW) := by
        rw [List.take_of_length_le (by simp)] at hown
        simpa using hown
      have hj := hid (join_row wr _ _ (l.map txt) sep (by simpa using hn) hown' HL.out)
      clear hown' hown
      go_wp2_with fail
      refine hj.out.mono ?_
      rintro e w3 ⟨rfl, e3⟩
      go_wp2_with fail
      go_ret
      exact ⟨rfl, he.trans e3⟩

set_option maxHeartbeats 4000000 in
theorem joinS_any (w : World) (a : Option Addr) (cap : Nat) (l : List St) (F : Nat → Prop) (ks : List Value) (hcap : l.length ≤ cap) (hc : CellsIn w F a ks) (hq : stEnc.all w F l ks) (sep : List UInt8) (f : FuncId) (txt : St → List UInt8)
    (hent : ∀ args w', (callFunc f args).run Tryz.prog w' = .ok (.enter f args) w') (hf : ∀ x ∈ l, TextC f stEnc txt w F x) (hn : l.length ≤ 100000) (hlen : (Lib.join (l.map txt) sep).length ≤ 140737488355328) :
    Calls Tryz.prog 42 #[.slice a l.length cap, .string ⟨sep.toArray⟩, .func (.func f) #[] #[]] w fun e w' => e = .returned (.string ⟨(Lib.join (l.map txt) sep).toArray⟩) ∧ Ext w w' := by
  obtain ⟨i0, hi0, hz0, hz1, hz2⟩ := info_parts Tryz.infoStr
  have HF := hid hf
  have HL := hid hlen
  clear hf hlen
  go_enter Tryz.func42, Tryz.ntmps42
  go_wp2_with fail
  go_loopw [7, 12] (fun v i wr => ∃ k : Nat, k ≤ l.length ∧ i = .int .i64 k ∧ Ext w wr ∧ wr.ownsRow w.heap.size 9 1 v k (((l.map txt).take k).map strW)) (fun _ i _ => l.length - (intOf i).toNat)
  case atStart => exact ⟨0, Nat.zero_le _, rfl, Ext.refl _, World.ownsRow_nil _ _ _ _⟩
  case round =>
    obtain ⟨k, hk, rfl, he, hown⟩ := hrel
    obtain ⟨va, vc, hv, _, _, _⟩ := owned_cells hown
    subst hv
    by_cases hlt : k < l.length
    · obtain ⟨b, off, vs, rfl, h1, h2⟩ := elem_at stEnc (by decide) st_cons (hc.ext he) (stEnc.exts hq he) hlt
      obtain ⟨op, text, ea, en, ec, ba, bn, bc, la, ln, lc, at_, rfl⟩ := st_form h1
      have d0 := h2 0 _ rfl
      have d1 := h2 1 _ rfl
      have d2 := h2 2 _ rfl
      have d3 := h2 3 _ rfl
      have d4 := h2 4 _ rfl
      have d5 := h2 5 _ rfl
      simp only [stEnc, Nat.add_zero] at d0 d1 d2 d3 d4 d5
      have HT := hid (HF.out l[k] (List.getElem_mem hlt))
      have H1 := hid h1
      have HO := hid hown
      clear h1 h2 hown
      go_wp2_with fail
      refine (HT.out _ _ (he.alloc _) (stEnc.ext H1.out ((Ext.refl _).alloc _))).mono ?_
      rintro e w3 ⟨rfl, e3⟩
      have hown3 := ((ownsRow_ext HO.out ((Ext.refl wr).alloc _)) |> fun h => ownsRow_ext h e3).alloc (.cells #[.string ⟨(txt l[k]).toArray⟩] 9)
      have he3 := (he.alloc _).trans e3
      have hsz3 := he3.size
      go_wp2_with (at_builtin; refine wpList_append_own _ rfl _ _ 80 rfl w.heap.size 9 i0 (.string ⟨#[]⟩) 1 16 Tryz.underlying80 hi0 hz0 hz1 hz2 rfl (by decide) _ _ _ rfl hown3 ⟨w3.heap.size, 0, none⟩ 1 1 [.string ⟨(txt l[k]).toArray⟩] rfl rfl ?c1 ?c2 ?c3 ?c4 ?c5 ?_)
      case c1 => exact news_cells _ _ _ _ rfl
      case c2 => simp [Value.oneCell']
      case c3 => simp only [maxLen]; omega
      case c4 => omega
      case c5 => simp; omega
      intro v' w4 hown4 hgr _
      have e4 : Ext w w4 := (he3.alloc _).grown hown3 (Nat.le_refl _) hgr
      have hown5 : w4.ownsRow w.heap.size 9 1 v' (k + 1) (((l.map txt).take (k + 1)).map strW) := by
        rw [take_snocS _ k (by simpa using hlt)]
        simpa [strW] using hown4
      clear hown4 hown3 hgr
      have HO5 := hid hown5
      clear hown5
      go_wp2_with fail
      go_roundw
      case rel => exact ⟨k + 1, by omega, by go_num, e4, HO5.out⟩
      case measure => simp [intOf]; omega
    · obtain rfl : k = l.length := by omega
      have hown' : wr.ownsRow w.heap.size 9 1 (.slice va l.length vc) (l.map txt).length ((l.map txt).map strW) := by
        rw [List.take_of_length_le (by simp)] at hown
        simpa using hown
      have hj := hid (join_row wr _ _ (l.map txt) sep (by simpa using hn) hown' HL.out)
      clear hown' hown
      go_wp2_with fail
      refine hj.out.mono ?_
      rintro e w3 ⟨rfl, e3⟩
      go_wp2_with fail
      go_ret
      exact ⟨rfl, he.trans e3⟩

set_option maxHeartbeats 4000000 in
theorem joinF_any (w : World) (a : Option Addr) (cap : Nat) (l : List Fu) (F : Nat → Prop) (ks : List Value) (hcap : l.length ≤ cap) (hc : CellsIn w F a ks) (hq : fuEnc.all w F l ks) (sep : List UInt8) (f : FuncId) (txt : Fu → List UInt8)
    (hent : ∀ args w', (callFunc f args).run Tryz.prog w' = .ok (.enter f args) w') (hf : ∀ x ∈ l, TextC f fuEnc txt w F x) (hn : l.length ≤ 100000) (hlen : (Lib.join (l.map txt) sep).length ≤ 140737488355328) :
    Calls Tryz.prog 15 #[.slice a l.length cap, .string ⟨sep.toArray⟩, .func (.func f) #[] #[]] w fun e w' => e = .returned (.string ⟨(Lib.join (l.map txt) sep).toArray⟩) ∧ Ext w w' := by
  obtain ⟨i0, hi0, hz0, hz1, hz2⟩ := info_parts Tryz.infoStr
  have HF := hid hf
  have HL := hid hlen
  clear hf hlen
  go_enter Tryz.func15, Tryz.ntmps15
  go_wp2_with fail
  go_loopw [7, 12] (fun v i wr => ∃ k : Nat, k ≤ l.length ∧ i = .int .i64 k ∧ Ext w wr ∧ wr.ownsRow w.heap.size 9 1 v k (((l.map txt).take k).map strW)) (fun _ i _ => l.length - (intOf i).toNat)
  case atStart => exact ⟨0, Nat.zero_le _, rfl, Ext.refl _, World.ownsRow_nil _ _ _ _⟩
  case round =>
    obtain ⟨k, hk, rfl, he, hown⟩ := hrel
    obtain ⟨va, vc, hv, _, _, _⟩ := owned_cells hown
    subst hv
    by_cases hlt : k < l.length
    · obtain ⟨b, off, vs, rfl, h1, h2⟩ := elem_at fuEnc (by decide) fu_cons (hc.ext he) (fuEnc.exts hq he) hlt
      obtain ⟨nm, pa, pn, pc, rs, ba, bn, bc, at_, rfl⟩ := fu_form h1
      have d0 := h2 0 _ rfl
      have d1 := h2 1 _ rfl
      have d2 := h2 2 _ rfl
      have d3 := h2 3 _ rfl
      have d4 := h2 4 _ rfl
      simp only [fuEnc, Nat.add_zero] at d0 d1 d2 d3 d4
      have HT := hid (HF.out l[k] (List.getElem_mem hlt))
      have H1 := hid h1
      have HO := hid hown
      clear h1 h2 hown
      go_wp2_with fail
      refine (HT.out _ _ (he.alloc _) (fuEnc.ext H1.out ((Ext.refl _).alloc _))).mono ?_
      rintro e w3 ⟨rfl, e3⟩
      have hown3 := ((ownsRow_ext HO.out ((Ext.refl wr).alloc _)) |> fun h => ownsRow_ext h e3).alloc (.cells #[.string ⟨(txt l[k]).toArray⟩] 9)
      have he3 := (he.alloc _).trans e3
      have hsz3 := he3.size
      go_wp2_with (at_builtin; refine wpList_append_own _ rfl _ _ 80 rfl w.heap.size 9 i0 (.string ⟨#[]⟩) 1 16 Tryz.underlying80 hi0 hz0 hz1 hz2 rfl (by decide) _ _ _ rfl hown3 ⟨w3.heap.size, 0, none⟩ 1 1 [.string ⟨(txt l[k]).toArray⟩] rfl rfl ?c1 ?c2 ?c3 ?c4 ?c5 ?_)
      case c1 => exact news_cells _ _ _ _ rfl
      case c2 => simp [Value.oneCell']
      case c3 => simp only [maxLen]; omega
      case c4 => omega
      case c5 => simp; omega
      intro v' w4 hown4 hgr _
      have e4 : Ext w w4 := (he3.alloc _).grown hown3 (Nat.le_refl _) hgr
      have hown5 : w4.ownsRow w.heap.size 9 1 v' (k + 1) (((l.map txt).take (k + 1)).map strW) := by
        rw [take_snocS _ k (by simpa using hlt)]
        simpa [strW] using hown4
      clear hown4 hown3 hgr
      have HO5 := hid hown5
      clear hown5
      go_wp2_with fail
      go_roundw
      case rel => exact ⟨k + 1, by omega, by go_num, e4, HO5.out⟩
      case measure => simp [intOf]; omega
    · obtain rfl : k = l.length := by omega
      have hown' : wr.ownsRow w.heap.size 9 1 (.slice va l.length vc) (l.map txt).length ((l.map txt).map strW) := by
        rw [List.take_of_length_le (by simp)] at hown
        simpa using hown
      have hj := hid (join_row wr _ _ (l.map txt) sep (by simpa using hn) hown' HL.out)
      clear hown' hown
      go_wp2_with fail
      refine hj.out.mono ?_
      rintro e w3 ⟨rfl, e3⟩
      go_wp2_with fail
      go_ret
      exact ⟨rfl, he.trans e3⟩

set_option maxHeartbeats 4000000 in
theorem joinP_any (w : World) (a : Option Addr) (cap : Nat) (l : List Pa) (F : Nat → Prop) (ks : List Value) (hcap : l.length ≤ cap) (hc : CellsIn w F a ks) (hq : paEnc.all w F l ks) (sep : List UInt8) (f : FuncId) (txt : Pa → List UInt8)
    (hent : ∀ args w', (callFunc f args).run Tryz.prog w' = .ok (.enter f args) w') (hf : ∀ x ∈ l, TextC f paEnc txt w F x) (hn : l.length ≤ 100000) (hlen : (Lib.join (l.map txt) sep).length ≤ 140737488355328) :
    Calls Tryz.prog 17 #[.slice a l.length cap, .string ⟨sep.toArray⟩, .func (.func f) #[] #[]] w fun e w' => e = .returned (.string ⟨(Lib.join (l.map txt) sep).toArray⟩) ∧ Ext w w' := by
  obtain ⟨i0, hi0, hz0, hz1, hz2⟩ := info_parts Tryz.infoStr
  have HF := hid hf
  have HL := hid hlen
  clear hf hlen
  go_enter Tryz.func17, Tryz.ntmps17
  go_wp2_with fail
  go_loopw [7, 12] (fun v i wr => ∃ k : Nat, k ≤ l.length ∧ i = .int .i64 k ∧ Ext w wr ∧ wr.ownsRow w.heap.size 9 1 v k (((l.map txt).take k).map strW)) (fun _ i _ => l.length - (intOf i).toNat)
  case atStart => exact ⟨0, Nat.zero_le _, rfl, Ext.refl _, World.ownsRow_nil _ _ _ _⟩
  case round =>
    obtain ⟨k, hk, rfl, he, hown⟩ := hrel
    obtain ⟨va, vc, hv, _, _, _⟩ := owned_cells hown
    subst hv
    by_cases hlt : k < l.length
    · obtain ⟨b, off, vs, rfl, h1, h2⟩ := elem_at paEnc (by decide) pa_cons (hc.ext he) (paEnc.exts hq he) hlt
      obtain ⟨nm, ty, rfl⟩ := pa_form h1
      have d0 := h2 0 _ rfl
      have d1 := h2 1 _ rfl
      simp only [paEnc, Nat.add_zero] at d0 d1
      have HT := hid (HF.out l[k] (List.getElem_mem hlt))
      have H1 := hid h1
      have HO := hid hown
      clear h1 h2 hown
      go_wp2_with fail
      refine (HT.out _ _ (he.alloc _) (paEnc.ext H1.out ((Ext.refl _).alloc _))).mono ?_
      rintro e w3 ⟨rfl, e3⟩
      have hown3 := ((ownsRow_ext HO.out ((Ext.refl wr).alloc _)) |> fun h => ownsRow_ext h e3).alloc (.cells #[.string ⟨(txt l[k]).toArray⟩] 9)
      have he3 := (he.alloc _).trans e3
      have hsz3 := he3.size
      go_wp2_with (at_builtin; refine wpList_append_own _ rfl _ _ 80 rfl w.heap.size 9 i0 (.string ⟨#[]⟩) 1 16 Tryz.underlying80 hi0 hz0 hz1 hz2 rfl (by decide) _ _ _ rfl hown3 ⟨w3.heap.size, 0, none⟩ 1 1 [.string ⟨(txt l[k]).toArray⟩] rfl rfl ?c1 ?c2 ?c3 ?c4 ?c5 ?_)
      case c1 => exact news_cells _ _ _ _ rfl
      case c2 => simp [Value.oneCell']
      case c3 => simp only [maxLen]; omega
      case c4 => omega
      case c5 => simp; omega
      intro v' w4 hown4 hgr _
      have e4 : Ext w w4 := (he3.alloc _).grown hown3 (Nat.le_refl _) hgr
      have hown5 : w4.ownsRow w.heap.size 9 1 v' (k + 1) (((l.map txt).take (k + 1)).map strW) := by
        rw [take_snocS _ k (by simpa using hlt)]
        simpa [strW] using hown4
      clear hown4 hown3 hgr
      have HO5 := hid hown5
      clear hown5
      go_wp2_with fail
      go_roundw
      case rel => exact ⟨k + 1, by omega, by go_num, e4, HO5.out⟩
      case measure => simp [intOf]; omega
    · obtain rfl : k = l.length := by omega
      have hown' : wr.ownsRow w.heap.size 9 1 (.slice va l.length vc) (l.map txt).length ((l.map txt).map strW) := by
        rw [List.take_of_length_le (by simp)] at hown
        simpa using hown
      have hj := hid (join_row wr _ _ (l.map txt) sep (by simpa using hn) hown' HL.out)
      clear hown' hown
      go_wp2_with fail
      refine hj.out.mono ?_
      rintro e w3 ⟨rfl, e3⟩
      go_wp2_with fail
      go_ret
      exact ⟨rfl, he.trans e3⟩
end Go.Proofs.YtaehlakefgnfmaaGreatDoor
