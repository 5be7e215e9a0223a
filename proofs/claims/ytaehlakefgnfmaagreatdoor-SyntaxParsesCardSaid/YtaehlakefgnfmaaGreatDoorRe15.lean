/-
  DERIVED. THE WALK of the document's reader's function (printed by gen_re15.py).
-/
import Derived.Test.YtaehlakefgnfmaaGreatDoorRe14
import Derived.Test.YtaehlakefgnfmaaGreatDoorBlock
namespace Go.Proofs.YtaehlakefgnfmaaGreatDoor
set_option linter.unusedSimpArgs false
set_option linter.unusedVariables false
set_option maxRecDepth 100000
open Go.RowKit

/-- The function under way: the reader, the result's block, the function's block. -/
structure FdAt (w0 w : World) (br n : Nat) (S : Rz) (cs : List Value) : Prop where
  rd : ReAt w br n S
  res : Blk w w0.heap.size 36 [.string ⟨#[]⟩, .slice none 0 0, .int .i64 0, .slice none 0 0, .int .i64 0]
  loc : Blk w (w0.heap.size + 1) 36 cs
  keep : Keep [br] w0 w
  lt : br < w0.heap.size
theorem FdAt.call {w0 w w' : World} {br n : Nat} {S S' : Rz} {cs : List Value} (h : FdAt w0 w br n S cs) (r : ReAt w' br n S') (k : Keep [br] w w') : FdAt w0 w' br n S' cs :=
  ⟨r, h.res.keep k (by have := h.lt; simp; omega), h.loc.keep k (by have := h.lt; simp; omega), h.keep.trans' k, h.lt⟩
theorem FdAt.set {w0 w : World} {br n : Nat} {S : Rz} {cs : List Value} (h : FdAt w0 w br n S cs) (i : Nat) (v : Value) : FdAt w0 (w.setCell ⟨w0.heap.size + 1, i, none⟩ v) br n S (cs.set i v) :=
  ⟨h.rd.set (by have := h.lt; omega) i v, h.res.setOther _ (by simp) v, h.loc.set i v, h.keep.setCell (.inr (by simp)) v, h.lt⟩
theorem FdAt.push {w0 w w' : World} {br n : Nat} {S S' : Rz} {cs cs' : List Value} {v : Value} (h : FdAt w0 w br n S cs) (r : ReAt w' br n S') (b : Blk w' (w0.heap.size + 1) 36 cs') (k : Keep (br :: (w0.heap.size + 1) :: ownL v) w w') (hv : ∀ q ∈ ownL v, w0.heap.size + 2 ≤ q) : FdAt w0 w' br n S' cs' :=
  ⟨r, h.res.keep k (fun hq => by
    have := h.lt
    simp only [List.mem_cons] at hq
    rcases hq with hq | hq | hq
    · omega
    · omega
    · have := hv _ hq; omega), b, h.keep.trans k (fun q hq => by
    simp only [List.mem_cons] at hq
    rcases hq with hq | hq | hq
    · exact .inl (by simp [hq])
    · right; omega
    · right; have := hv _ hq; omega), h.lt⟩
theorem FdAt.setO {w0 w : World} {br n b : Nat} {S : Rz} {cs : List Value} (h : FdAt w0 w br n S cs) (hb : w0.heap.size + 2 ≤ b) (i : Nat) (v : Value) : FdAt w0 (w.setCell ⟨b, i, none⟩ v) br n S cs :=
  ⟨h.rd.set (by have := h.lt; omega) i v, h.res.setOther _ (by show b ≠ _; omega) v, h.loc.setOther _ (by show b ≠ _; omega) v, h.keep.setCell (.inr (by show w0.heap.size ≤ b; omega)) v, h.lt⟩
theorem FdAt.alloc {w0 w : World} {br n : Nat} {S : Rz} {cs : List Value} (h : FdAt w0 w br n S cs) (o : Obj) : FdAt w0 (w.alloc o) br n S cs :=
  ⟨h.rd.ext ((Ext.refl _).alloc _), h.res.alloc _, h.loc.alloc _, h.keep.alloc _, h.lt⟩
/-- What stands behind the parameters. -/
def resR (B : Rd (List St)) (nm : List UInt8) (ps : List Pa) (p : Nat) : Rd Fu := fun r =>
  if isSign [58] r then (typS r.tail).bind fun t r => (B r).bind fun bd r => .ok ⟨nm, ps, t, bd, p⟩ r
  else (B r).bind fun bd r => .ok ⟨nm, ps, 0, bd, p⟩ r
def resS (n : Nat) (B : Rd (List St)) (S : Rz) : Rz := if isS [58] S then aft n B (aft n typS (tkS [58] S)) else aft n B S
theorem res_yes {B : Rd (List St)} {nm : List UInt8} {ps : List Pa} {p : Nat} {r : List Tok} (h : isSign [58] r = true) : resR B nm ps p r = sqR typS (fun t => sqR B (fun bd => retR ⟨nm, ps, t, bd, p⟩)) r.tail := by
  unfold resR; rw [if_pos h]; rfl
theorem res_no {B : Rd (List St)} {nm : List UInt8} {ps : List Pa} {p : Nat} {r : List Tok} (h : isSign [58] r = false) : resR B nm ps p r = sqR B (fun bd => retR ⟨nm, ps, 0, bd, p⟩) r := by
  unfold resR; rw [if_neg (by rw [h]; decide)]; rfl
theorem aft_resR {n : Nat} {B : Rd (List St)} {nm : List UInt8} {ps : List Pa} {p : Nat} {S : Rz} : aft n (resR B nm ps p) S = resS n B S := by
  cases S with
  | bad y q => rfl
  | ok r =>
    show toS n (resR B nm ps p r) = _
    cases h : isSign [58] r with
    | true =>
      rw [res_yes h, resS, show isS [58] (.ok r) = true from h, if_pos rfl, tkS, if_pos h]
      exact aft_sq (n := n) (S := .ok r.tail) (F := fun S => aft n B S) (fun _ S => aft_sq (F := fun S => S) (fun _ S => aft_ret _ _ _) (fun _ _ => rfl)) (fun _ _ => rfl)
    | false =>
      rw [res_no h, resS, show isS [58] (.ok r) = false from h, if_neg (by decide)]
      exact aft_sq (n := n) (S := .ok r) (F := fun S => S) (fun _ S => aft_ret _ _ _) (fun _ _ => rfl)
theorem giv_resR {n : Nat} {B : Rd (List St)} {nm : List UInt8} {ps : List Pa} {p : Nat} {S : Rz} {f : Fu} (h : Giv (resR B nm ps p) S f) :
    (isS [58] S = true → ∃ t bd, Giv typS (tkS [58] S) t ∧ Giv B (aft n typS (tkS [58] S)) bd ∧ f = ⟨nm, ps, t, bd, p⟩) ∧ (isS [58] S = false → ∃ bd, Giv B S bd ∧ f = ⟨nm, ps, 0, bd, p⟩) := by
  obtain ⟨ts, r, rfl, h⟩ := h
  refine ⟨fun hs => ?_, fun hs => ?_⟩
  · have hs' : isSign [58] ts = true := hs
    rw [res_yes hs'] at h
    obtain ⟨t, g1, hg⟩ := giv_sq n (show Giv (sqR typS _) (.ok ts.tail) f from ⟨_, r, rfl, h⟩)
    obtain ⟨bd, g2, hg⟩ := giv_sq n hg
    obtain rfl := giv_ret hg
    rw [tkS, if_pos hs']
    exact ⟨t, bd, g1, g2, rfl⟩
  · have hs' : isSign [58] ts = false := hs
    rw [res_no hs'] at h
    obtain ⟨bd, g2, hg⟩ := giv_sq n (show Giv (sqR B _) (.ok ts) f from ⟨_, r, rfl, h⟩)
    obtain rfl := giv_ret hg
    exact ⟨bd, g2, rfl⟩
def funR (B : Rd (List St)) (p : Nat) : Rd Fu := sqR (signR [102, 110]) (fun _ => sqR nameR (fun nm => sqR (signR [40]) (fun _ => sqR (listS paramS) (fun ps => resR B nm ps p))))
theorem fun_sq {us : List Tok} : funS us = funR (BK 32) (headPlace us) us := by
  unfold funS
  simp only [must_sq, name_sq]
  rfl
theorem fun_place {us : List Tok} {n : Nat} : funS us = funR (BK 32) (placeOf n us) us := by
  cases us with
  | nil => rfl
  | cons t r => rw [fun_sq]; rfl
theorem aft_fun {n : Nat} {B : Rd (List St)} {p : Nat} {S : Rz} : aft n (funR B p) S = resS n B (aft n (listS paramS) (aft n (signR [40]) (aft n nameR (aft n (signR [102, 110]) S)))) :=
  aft_sq (F := fun S => resS n B (aft n (listS paramS) (aft n (signR [40]) (aft n nameR S)))) (fun _ S => aft_sq (F := fun S => resS n B (aft n (listS paramS) (aft n (signR [40]) S))) (fun _ S => aft_sq (F := fun S => resS n B (aft n (listS paramS) S)) (fun _ S => aft_sq (F := fun S => resS n B S) (fun _ S => aft_resR) (fun _ _ => rfl)) (fun _ _ => rfl)) (fun _ _ => rfl)) (fun _ _ => rfl)
theorem par_sq : paramS = sqR nameR (fun nm => sqR (signR [58]) (fun _ => sqR typS (fun t => retR ⟨nm, t⟩))) := by
  funext ts
  unfold paramS
  simp only [must_sq, name_sq]
  rfl
theorem aft_par {n : Nat} {S : Rz} : aft n paramS S = aft n typS (aft n (signR [58]) (aft n nameR S)) := by
  rw [par_sq]
  exact aft_sq (F := fun S => aft n typS (aft n (signR [58]) S)) (fun _ S => aft_sq (F := fun S => aft n typS S) (fun _ S => aft_sq (F := fun S => S) (fun _ S => aft_ret _ _ _) (fun _ _ => rfl)) (fun _ _ => rfl)) (fun _ _ => rfl)
theorem giv_par {n : Nat} {S : Rz} {x : Pa} (h : Giv paramS S x) : ∃ nm t, Giv nameR S nm ∧ Giv typS (aft n (signR [58]) (aft n nameR S)) t ∧ x = ⟨nm, t⟩ := by
  rw [par_sq] at h
  obtain ⟨nm, g1, h⟩ := giv_sq n h
  obtain ⟨_, _, h⟩ := giv_sq n h
  obtain ⟨t, g2, h⟩ := giv_sq n h
  exact ⟨nm, t, g1, g2, giv_ret h⟩
/-- One parameter more. -/
theorem par_first {us : List Tok} {acc : List Pa} {k n : Nat} {R : Res (List Pa)} (hw : Wf us) (hR : R = (paramS us).bind fun a r => listGo paramS k false (acc ++ [a]) r) :
    (∃ x r, aft n paramS (.ok us) = .ok r ∧ Giv paramS (.ok us) x ∧ R = listGo paramS k false (acc ++ [x]) r ∧ r.length + 1 ≤ us.length) ∨ (∃ x q, aft n paramS (.ok us) = .bad x q ∧ toS n R = .bad x q) := by
  have hF := inv_param us hw
  cases hp : paramS us with
  | ok x r =>
    rw [hp] at hF
    have h1 : 1 + r.length ≤ us.length := hF.1
    exact .inl ⟨x, r, by simp only [aft, hp, toS], ⟨us, r, rfl, hp⟩, by rw [hR, hp]; rfl, by omega⟩
  | err c r => exact .inr ⟨c, placeOf n r, by simp only [aft, hp, toS], by rw [hR, hp]; rfl⟩
theorem par_more {us : List Tok} {acc : List Pa} {k n : Nat} {R : Res (List Pa)} (hw : Wf us) (hR : R = must [44] us fun us => (paramS us).bind fun a r => listGo paramS k false (acc ++ [a]) r) :
    (∃ x r, aft n paramS (aft n (signR [44]) (.ok us)) = .ok r ∧ Giv paramS (aft n (signR [44]) (.ok us)) x ∧ R = listGo paramS k false (acc ++ [x]) r ∧ r.length + 1 ≤ us.length) ∨ (∃ x q, aft n paramS (aft n (signR [44]) (.ok us)) = .bad x q ∧ toS n R = .bad x q) := by
  cases h : isSign [44] us with
  | false =>
    rw [aft_sign, show isS [44] (.ok us) = false from h, if_neg (by decide)]
    exact .inr ⟨41, placeOf n us, rfl, by rw [hR, must, h]; rfl⟩
  | true =>
    rw [aft_sign, show isS [44] (.ok us) = true from h, if_pos rfl, tkS, if_pos h]
    have hl := isSign_len h
    rcases par_first (n := n) hw.tail (show R = (paramS us.tail).bind fun a r => listGo paramS k false (acc ++ [a]) r by rw [hR, must, h]; rfl) with ⟨x, r, h1, h2, h3, h4⟩ | h5
    · exact .inl ⟨x, r, h1, h2, h3, by omega⟩
    · exact .inr h5
theorem res_of {α : Type} (n : Nat) (P : Rd α) (S : Rz) : ∃ R : Res α, toS n R = aft n P S ∧ (∀ l, Giv P S l → ∃ r, R = .ok l r) ∧ ∀ ts, S = .ok ts → R = P ts := by
  cases S with
  | ok ts => exact ⟨P ts, rfl, fun l hg => giv_ok hg, fun ts' h => by cases h; rfl⟩
  | bad x q => exact ⟨.err x [⟨0, [], 0, q⟩], rfl, fun l hg => (giv_bad hg).elim, fun ts h => by cases h⟩
def fuelS : Rz → Nat
  | .ok ts => ts.length + 2
  | .bad _ _ => 2
/-- Five cells as a function has them. -/
def fuForm (vs : List Value) : Prop := ∃ (nm : List UInt8) (pa : Option Addr) (pn pc rs : Nat) (ba : Option Addr) (bn bc at_ : Nat), vs = [.string ⟨nm.toArray⟩, .slice pa pn pc, .int .i64 rs, .slice ba bn bc, .int .i64 at_]
def FuPost (w : World) (br n : Nat) (S : Rz) (P : Rd Fu) (e : Ending) (w' : World) : Prop :=
  (∃ vs, e = .returned (.agg vs.toArray) ∧ fuForm vs ∧ ∀ x, Giv P S x → FuIs w' (w.heap.size ≤ ·) x vs) ∧ ReAt w' br n (aft n P S) ∧ Keep [br] w w'
def FdRel (w : World) (br n : Nat) (nm : List UInt8) (p : Nat) (R : Res (List Pa)) (k : Nat) (wr : World) : Prop :=
  ∃ va m vc S, FdAt w wr br n S [.string ⟨nm.toArray⟩, .slice va m vc, .int .i64 0, .slice none 0 0, .int .i64 p] ∧ m ≤ 2049 ∧ 0 < k ∧ (∃ ks, wr.ownsRow (w.heap.size + 2) 53 2 (.slice va m vc) m ks) ∧
    ((∃ acc us, S = .ok us ∧ m = acc.length ∧ OwnX paEnc 53 wr (w.heap.size + 2) (.slice va m vc) acc ∧ acc.length + us.length ≤ 2048 ∧ us.length + 1 < k ∧ R = listGo paramS (k - 1) acc.isEmpty acc us) ∨ (∃ x q, S = .bad x q ∧ toS n R = .bad x q))
theorem fd_start {w w4 : World} {br n : Nat} {nm : List UInt8} {p : Nat} {S3 : Rz} {R : Res (List Pa)} (A : FdAt w w4 br n S3 [.string ⟨nm.toArray⟩, .slice none 0 0, .int .i64 0, .slice none 0 0, .int .i64 p]) (h1 : toS n R = aft n (listS paramS) S3) (h3 : ∀ ts, S3 = .ok ts → R = listS paramS ts) :
    FdRel w br n nm p R (fuelS S3) w4 := by
  refine ⟨none, 0, 0, S3, A, by omega, ?_, ⟨[], World.ownsRow_nil _ _ _ _⟩, ?_⟩
  · cases S3 <;> simp [fuelS]
  · cases S3 with
    | ok ts => exact .inl ⟨[], ts, rfl, rfl, OwnX.nil _ _ _ _, by have := A.rd.wf.2; simp; omega, by simp [fuelS], by rw [h3 ts rfl]; rfl⟩
    | bad x q => exact .inr ⟨x, q, rfl, h1⟩
set_option maxHeartbeats 64000000 in
theorem rFun_any (w : World) (br n : Nat) (us : List Tok) (hr : ReAt w br n (.ok us)) :
    Calls Tryz.prog 13 #[.pointer (some ⟨br, 0, none⟩)] w (FuPost w br n (.ok us) funS) := by
  obtain ⟨i0, hi0, hz0, hz1, hz2⟩ := info_parts Tryz.infoParam
  have HFS := hid (fun p (h : p = placeOf n us) => (show funS us = funR (BK 32) p us by rw [h]; exact fun_place))
  have HBK := hid (rBK 32 (by omega))
  have tt := fun (a b c d : Value) (w : World) => Tryz.tokText a b c d w
  have hlt := hr.lt
  go_enter Tryz.func13, Tryz.ntmps13
  go_wp2_with fail
  refine (rPlace_any _ br n _ (hr.ext ((Ext.refl _).alloc _))).mono ?_
  rintro e' wP ⟨⟨p, rfl, hp⟩, mm, rfl⟩
  have HP := hid (HFS.out p (hp us rfl))
  clear hp HFS
  have A0 : FdAt w (((w.alloc (.cells #[.string ⟨#[]⟩, .slice none 0 0, .int .i64 0, .slice none 0 0, .int .i64 0] 36)).drewN mm).alloc (.cells #[.string ⟨#[]⟩, .slice none 0 0, .int .i64 0, .slice none 0 0, .int .i64 p] 36)) br n (.ok us) [.string ⟨#[]⟩, .slice none 0 0, .int .i64 0, .slice none 0 0, .int .i64 p] :=
    ⟨((hr.ext ((Ext.refl _).alloc _)).drewN mm).ext ((Ext.refl _).alloc _), ((Blk.new w 36 [.string ⟨#[]⟩, .slice none 0 0, .int .i64 0, .slice none 0 0, .int .i64 0]).drewN mm).alloc _, by
      have := Blk.new ((w.alloc (.cells #[.string ⟨#[]⟩, .slice none 0 0, .int .i64 0, .slice none 0 0, .int .i64 0] 36)).drewN mm) 36 [.string ⟨#[]⟩, .slice none 0 0, .int .i64 0, .slice none 0 0, .int .i64 p]
      have e : ((w.alloc (.cells #[.string ⟨#[]⟩, .slice none 0 0, .int .i64 0, .slice none 0 0, .int .i64 0] 36)).drewN mm).heap.size = w.heap.size + 1 := by show (w.alloc _).heap.size = _; rw [World.size_alloc]
      rw [e] at this
      exact this, (((Keep.refl _ _).alloc _).trans' (Keep.drewN' _ _ mm)).alloc _, hlt⟩
  go_wp2_with fail
  refine (rMust_any _ br n _ A0.rd [102, 110]).mono ?_
  rintro e' w1 ⟨rfl, r1, k1⟩
  have A1 := A0.call r1 k1
  go_wp2_with fail
  refine (rName_any _ br n _ A1.rd).mono ?_
  rintro e' w2 ⟨⟨na, nb, nc, nd, rfl, hnm⟩, r2, k2⟩
  have HNM := hid hnm
  clear hnm
  have A2 := A1.call r2 k2
  have A3 := A2.set 0 (.string ⟨nb.toArray⟩)
  simp only [List.set_cons_zero, List.set_cons_succ] at A3
  obtain ⟨l0, l1, l2, l3, l4, lf⟩ := A2.loc.fiveR
  have lB := A2.loc.lt
  go_wp2_with fail
  refine (rMust_any _ br n _ A3.rd [40]).mono ?_
  rintro e' w4 ⟨rfl, r4, k4⟩
  have A4 := A3.call r4 k4
  clear l0 l1 l2 l3 l4 lf lB r4 r1 r2 A0 A1 A2 A3
  obtain ⟨S3, hS3⟩ : ∃ S3, S3 = (aft n (signR [40]) (aft n nameR (aft n (signR [102, 110]) (.ok us)))) := ⟨_, rfl⟩
  rw [← hS3] at A4
  obtain ⟨R, hR1, hR2, hR3⟩ := res_of n (listS paramS) S3
  have HREL := hid (fd_start A4 hR1 hR3)
  have HS3 := hid hS3
  have HR1 := hid hR1
  have HR2 := hid hR2
  clear hS3 hR1 hR2 hR3 A4 k1 k2 k4
  go_wp2_with fail
  go_loopg [] (fuelS S3) (fun k wr => FdRel w br n nb p R k wr)
  case atStart => exact HREL.out
  case round =>
    obtain ⟨va, m, vc, S, FA, hm, hgk, ⟨ks1, own1⟩, hcase⟩ := hrel
    obtain ⟨k, rfl⟩ : ∃ k, gk = k + 1 := ⟨gk - 1, by omega⟩
    clear HREL
    rcases hcase with ⟨acc, vs1, rfl, hmacc, hownX, hl, hltk, hR⟩ | ⟨x, q, rfl, hR⟩
    · obtain ⟨k, rfl⟩ : ∃ k', k = k' + 1 := ⟨k - 1, by omega⟩
      have HWU := hid FA.rd.wf.1
      obtain ⟨rto, hraw⟩ := FA.rd.raw
      obtain ⟨ra, rlen, rcap, rk, _, _, _, rb, _⟩ := hraw.blk
      obtain ⟨c0, c1, c2, c3, c4, cf⟩ := rb.fiveR
      have HOX := hid hownX
      have HM := hid hmacc
      have HR := hid (show R = listGo paramS (k + 1) acc.isEmpty acc vs1 from hR)
      clear hownX hR hmacc
      cases h41 : isSign [41] vs1 with
      | true =>
        have H41 := hid h41
        clear h41
        have HRA := hid (show R = .ok acc vs1.tail by rw [HR.out, listGo_succ, if_pos H41.out])
        go_wp2_with fail
        refine (rIs_any wr br n _ FA.rd [41]).mono ?_
        rintro e' w3 ⟨rfl, mm, rfl⟩
        rw [show isS [41] (.ok vs1) = true from H41.out]
        have FB := FA.call (FA.rd.drewN mm) (Keep.drewN' _ _ mm)
        have kT := Keep.drewN' [br, w.heap.size, w.heap.size + 1] wr mm
        go_wp2_with fail
        refine (rMust_any _ br n _ FB.rd [41]).mono ?_
        rintro e' w5 ⟨rfl, r5, k5⟩
        have r5' : ReAt w5 br n (toS n R) := by
          have := r5
          rw [aft_sign, show isS [41] (.ok vs1) = true from H41.out, if_pos rfl, tkS, if_pos H41.out] at this
          rw [HRA.out]
          exact this
        have B5 := FB.call r5' k5
        have kT := kT.trans k5 (by simp)
        clear r5 r5' c0 c1 c2 c3 c4 cf rb hraw
        obtain ⟨S5, hS5⟩ : ∃ S5, S5 = toS n R := ⟨_, rfl⟩
        rw [← hS5] at B5
        have HS5 := hid hS5
        clear hS5
        cases hs : isS [58] S5 with
        | false =>
          have HC := hid hs
          clear hs
          go_wp2_with fail
          refine (rTake_any _ br n _ B5.rd [58]).mono ?_
          rintro e' w6 ⟨rfl, r6, k6⟩
          rw [HC.out]
          rw [tkS_no HC.out] at r6
          have B6 := B5.call r6 k6
          have kT := kT.trans k6 (by simp)
          go_wp2_with fail
          refine (HBK.out _ br n _ B6.rd).mono ?_
          rintro e' w9 ⟨⟨bva, bm, bvc, rfl, hbl⟩, r9, k9⟩
          have HBL := hid hbl
          clear hbl
          have szA := B6.keep.size
          have B9 := B6.call r9 k9
          have B10 := B9.set 3 (.slice bva bm bvc)
          simp only [List.set_cons_zero, List.set_cons_succ] at B10
          obtain ⟨n0, n1, n2, n3, n4, nf⟩ := B9.loc.fiveR
          obtain ⟨l0, l1, l2, l3, l4, lf⟩ := B10.loc.fiveR
          obtain ⟨m0, m1, m2, m3, m4, mf⟩ := B10.res.fiveR
          have lr7 := B10.res.lt
          have lr8 := B10.loc.lt
          have lr9 := B9.loc.lt
          have bF := B10.res.put5 (.string ⟨nb.toArray⟩) (.slice va m vc) (.int .i64 0) (.slice bva bm bvc) (.int .i64 p)
          have kF := Keep.put5 (w9.setCell ⟨w.heap.size + 1, 3, none⟩ (.slice bva bm bvc)) w.heap.size (.string ⟨nb.toArray⟩) (.slice va m vc) (.int .i64 0) (.slice bva bm bvc) (.int .i64 p)
          obtain ⟨x0, x1, x2, x3, x4, _⟩ := bF.fiveR
          have kB := ((Keep.refl [w.heap.size + 1, w.heap.size] w9).setCell (p := ⟨w.heap.size + 1, 3, none⟩) (by simp) (.slice bva bm bvc)).trans kF (by simp)
          have kT := ((kT.trans k9 (by simp)).setCell (p := ⟨w.heap.size + 1, 3, none⟩) (by simp) (.slice bva bm bvc)).trans kF (by simp)
          go_wp2_with fail
          refine bodyPost_ret (v := .agg #[.string ⟨nb.toArray⟩, .slice va m vc, .int .i64 0, .slice bva bm bvc, .int .i64 p]) (by simp [results, Tryz.results13, go_sem, x0, x1, x2, x3, x4]) rfl ⟨⟨_, rfl, ⟨nb, va, m, vc, 0, bva, bm, bvc, p, rfl⟩, fun x hg => ?_⟩, ?_, B10.keep.trans kF (by simp)⟩
          · obtain ⟨r, hg⟩ := giv_ok hg
            rw [HP.out] at hg
            have hg := show Giv (funR (BK 32) p) (.ok us) x from ⟨_, r, rfl, hg⟩
            obtain ⟨_, _, hg⟩ := giv_sq n hg
            obtain ⟨nm, gN, hg⟩ := giv_sq n hg
            obtain ⟨_, _, hg⟩ := giv_sq n hg
            obtain ⟨ps, gP, hg⟩ := giv_sq n hg
            obtain rfl := HNM.out nm gN
            rw [← HS3.out] at gP hg
            obtain ⟨r', hRl⟩ := HR2.out ps gP
            rw [← HR1.out, ← HS5.out] at hg
            have hps : ps = acc := by
              have := HRA.out
              rw [hRl] at this
              cases this; rfl
            subst hps
            obtain ⟨bd, gB, rfl⟩ := (giv_resR (n := n) hg).2 HC.out
            have hrow := ((HOX.out.keep kT (by simp; omega)).row)
            have hlA := B6.loc.lt
            have cr := Carry.keep kB (F := ((w6).heap.size ≤ ·)) (G := (w.heap.size ≤ ·)) (fun b hb _ hf => by have hf1 : (w6).heap.size ≤ b := hf; simp only [List.mem_cons, List.not_mem_nil, or_false] at hb; omega) (fun b _ hf => by have hf1 : (w6).heap.size ≤ b := hf; show w.heap.size ≤ b; omega)
            have hbk := ((HBL.out bd gB).2).carry (Q' := fun ks => StsIs _ (w.heap.size ≤ ·) bd ks) cr fun ks hk => StsIs.carry cr _ _ hk
            refine ⟨_, _, by rfl, ?_, ?_⟩
            · rw [← HM.out] at hrow
              rw [← HM.out]
              exact RowIs.carry hrow ⟨fun _ _ _ _ h => h, fun b _ hb => by have hb' : w.heap.size + 2 ≤ b := hb; show w.heap.size ≤ b; omega⟩ fun ks hk => hk
            · rw [← (HBL.out bd gB).1] at hbk ⊢
              exact hbk
          · simp only [aft]
            rw [HP.out]
            show ReAt _ br n (aft n (funR (BK 32) p) (.ok us))
            rw [aft_fun, ← HS3.out, ← HR1.out, ← HS5.out, resS, HC.out, if_neg (by decide)]
            exact B10.rd.keep kF (by have := B10.lt; simp; omega)
        | true =>
          have HC := hid hs
          clear hs
          go_wp2_with fail
          refine (rTake_any _ br n _ B5.rd [58]).mono ?_
          rintro e' w6 ⟨rfl, r6, k6⟩
          rw [HC.out]
          have B6 := B5.call r6 k6
          have kT := kT.trans k6 (by simp)
          go_wp2_with fail
          refine (rTyp_any _ br n _ B6.rd).mono ?_
          rintro e' w7 ⟨⟨ty, rfl, hty⟩, r7, k7⟩
          have HTY := hid hty
          clear hty
          have B7 := B6.call r7 k7
          have B8 := B7.set 2 (.int .i64 ty)
          simp only [List.set_cons_zero, List.set_cons_succ] at B8
          have kT := (kT.trans k7 (by simp)).setCell (p := ⟨w.heap.size + 1, 2, none⟩) (by simp) (.int .i64 ty)
          obtain ⟨l0, l1, l2, l3, l4, lf⟩ := B7.loc.fiveR
          have lB := B7.loc.lt
          go_wp2_with fail
          refine (HBK.out _ br n _ B8.rd).mono ?_
          rintro e' w9 ⟨⟨bva, bm, bvc, rfl, hbl⟩, r9, k9⟩
          have HBL := hid hbl
          clear hbl l0 l1 l2 l3 l4 lf lB
          have szA := B8.keep.size
          have B9 := B8.call r9 k9
          have B10 := B9.set 3 (.slice bva bm bvc)
          simp only [List.set_cons_zero, List.set_cons_succ] at B10
          obtain ⟨n0, n1, n2, n3, n4, nf⟩ := B9.loc.fiveR
          obtain ⟨l0, l1, l2, l3, l4, lf⟩ := B10.loc.fiveR
          obtain ⟨m0, m1, m2, m3, m4, mf⟩ := B10.res.fiveR
          have lr7 := B10.res.lt
          have lr8 := B10.loc.lt
          have lr9 := B9.loc.lt
          have bF := B10.res.put5 (.string ⟨nb.toArray⟩) (.slice va m vc) (.int .i64 ty) (.slice bva bm bvc) (.int .i64 p)
          have kF := Keep.put5 (w9.setCell ⟨w.heap.size + 1, 3, none⟩ (.slice bva bm bvc)) w.heap.size (.string ⟨nb.toArray⟩) (.slice va m vc) (.int .i64 ty) (.slice bva bm bvc) (.int .i64 p)
          obtain ⟨x0, x1, x2, x3, x4, _⟩ := bF.fiveR
          have kB := ((Keep.refl [w.heap.size + 1, w.heap.size] w9).setCell (p := ⟨w.heap.size + 1, 3, none⟩) (by simp) (.slice bva bm bvc)).trans kF (by simp)
          have kT := ((kT.trans k9 (by simp)).setCell (p := ⟨w.heap.size + 1, 3, none⟩) (by simp) (.slice bva bm bvc)).trans kF (by simp)
          go_wp2_with fail
          refine bodyPost_ret (v := .agg #[.string ⟨nb.toArray⟩, .slice va m vc, .int .i64 ty, .slice bva bm bvc, .int .i64 p]) (by simp [results, Tryz.results13, go_sem, x0, x1, x2, x3, x4]) rfl ⟨⟨_, rfl, ⟨nb, va, m, vc, ty, bva, bm, bvc, p, rfl⟩, fun x hg => ?_⟩, ?_, B10.keep.trans kF (by simp)⟩
          · obtain ⟨r, hg⟩ := giv_ok hg
            rw [HP.out] at hg
            have hg := show Giv (funR (BK 32) p) (.ok us) x from ⟨_, r, rfl, hg⟩
            obtain ⟨_, _, hg⟩ := giv_sq n hg
            obtain ⟨nm, gN, hg⟩ := giv_sq n hg
            obtain ⟨_, _, hg⟩ := giv_sq n hg
            obtain ⟨ps, gP, hg⟩ := giv_sq n hg
            obtain rfl := HNM.out nm gN
            rw [← HS3.out] at gP hg
            obtain ⟨r', hRl⟩ := HR2.out ps gP
            rw [← HR1.out, ← HS5.out] at hg
            have hps : ps = acc := by
              have := HRA.out
              rw [hRl] at this
              cases this; rfl
            subst hps
            obtain ⟨t, bd, gT, gB, rfl⟩ := (giv_resR (n := n) hg).1 HC.out
            obtain rfl := HTY.out t gT
            have hrow := ((HOX.out.keep kT (by simp; omega)).row)
            have hlA := B8.loc.lt
            have cr := Carry.keep kB (F := ((w7.setCell ⟨w.heap.size + 1, 2, none⟩ (.int .i64 ty)).heap.size ≤ ·)) (G := (w.heap.size ≤ ·)) (fun b hb _ hf => by have hf1 : (w7.setCell ⟨w.heap.size + 1, 2, none⟩ (.int .i64 ty)).heap.size ≤ b := hf; simp only [List.mem_cons, List.not_mem_nil, or_false] at hb; omega) (fun b _ hf => by have hf1 : (w7.setCell ⟨w.heap.size + 1, 2, none⟩ (.int .i64 ty)).heap.size ≤ b := hf; show w.heap.size ≤ b; omega)
            have hbk := ((HBL.out bd gB).2).carry (Q' := fun ks => StsIs _ (w.heap.size ≤ ·) bd ks) cr fun ks hk => StsIs.carry cr _ _ hk
            refine ⟨_, _, by rfl, ?_, ?_⟩
            · rw [← HM.out] at hrow
              rw [← HM.out]
              exact RowIs.carry hrow ⟨fun _ _ _ _ h => h, fun b _ hb => by have hb' : w.heap.size + 2 ≤ b := hb; show w.heap.size ≤ b; omega⟩ fun ks hk => hk
            · rw [← (HBL.out bd gB).1] at hbk ⊢
              exact hbk
          · simp only [aft]
            rw [HP.out]
            show ReAt _ br n (aft n (funR (BK 32) p) (.ok us))
            rw [aft_fun, ← HS3.out, ← HR1.out, ← HS5.out, resS, HC.out, if_pos rfl]
            exact B10.rd.keep kF (by have := B10.lt; simp; omega)
      | false =>
        have H41 := hid h41
        clear h41
        have HRB := hid (show R = if acc.isEmpty then (paramS vs1).bind fun a r => listGo paramS k false (acc ++ [a]) r else must [44] vs1 fun ts' => (paramS ts').bind fun a r => listGo paramS k false (acc ++ [a]) r by
          have := HR.out
          rw [listGo_succ, H41.out] at this
          exact this)
        clear HR
        by_cases hacc : acc = []
        · subst hacc
          obtain rfl : m = 0 := HM.out
          have HST := hid (par_first (n := n) HWU.out (show R = (paramS vs1).bind fun a r => listGo paramS k false ([] ++ [a]) r from HRB.out))
          clear HRB
          go_wp2_with fail
          refine (rIs_any wr br n _ FA.rd [41]).mono ?_
          rintro e' w3 ⟨rfl, mm, rfl⟩
          rw [show isS [41] (.ok vs1) = false from H41.out]
          have FB := FA.call (FA.rd.drewN mm) (Keep.drewN' _ _ mm)
          have kW := Keep.drewN' [br] wr mm
          obtain ⟨y0, y1, y2, y3, y4, yf⟩ := FB.loc.fiveR
          have lF := FB.loc.lt
          go_wp2_with fail
          refine (rName_any _ br n _ FB.rd).mono ?_
          rintro e' w5 ⟨⟨qa, qb, qc, qd, rfl, hqn⟩, r5, k5⟩
          have HQN := hid hqn
          have szF := FB.keep.size
          have szw := kW.size
          have sz5 := k5.size
          clear hqn y0 y1 y2 y3 y4 yf lF c0 c1 c2 c3 c4 cf rb hraw
          have P5 := FB.call r5 k5
          have lP5 := P5.loc.lt
          have P6 := P5.alloc (.cells #[.string ⟨qb.toArray⟩, .int .i64 0] 53)
          have bP := Blk.new w5 53 [.string ⟨qb.toArray⟩, .int .i64 0]
          go_wp2_with fail
          refine (rMust_any _ br n _ P6.rd [58]).mono ?_
          rintro e' w7 ⟨rfl, r7, k7⟩
          have P7 := P6.call r7 k7
          have bP7 := bP.keep k7 (by simp; omega)
          go_wp2_with fail
          refine (rTyp_any _ br n _ P7.rd).mono ?_
          rintro e' w8 ⟨⟨qt, rfl, hqt⟩, r8, k8⟩
          have HQT := hid hqt
          clear hqt
          have P8 := P7.call r8 k8
          have bP8 := bP7.keep k8 (by simp; omega)
          have bP9 := bP8.set 1 (.int .i64 qt)
          simp only [List.set_cons_zero, List.set_cons_succ] at bP9
          have P9 := P8.setO (b := w5.heap.size) (by omega) 1 (.int .i64 qt)
          have KK : Keep [br] wr (w8.setCell ⟨w5.heap.size, 1, none⟩ (.int .i64 qt)) := ((((kW.trans' k5).alloc _).trans' k7).trans' k8).setCell (.inr (by show wr.heap.size ≤ w5.heap.size; omega)) _
          obtain ⟨ks, own, hall⟩ := HOX.out.keep KK (by simp; omega)
          have own4 := own.alloc (.cells #[.string ⟨qb.toArray⟩, .int .i64 qt] 53)
          have hall4 := paEnc.carries (Carry.keep (Keep.ofExt ((Ext.refl (w8.setCell ⟨w5.heap.size, 1, none⟩ (.int .i64 qt))).alloc (.cells #[.string ⟨qb.toArray⟩, .int .i64 qt] 53)) : Keep [] _ _) (by simp) (fun b _ hf => hf)) _ _ hall
          have HALL := hid hall4
          have lown : ∀ q ∈ ownL (.slice va 0 vc), w.heap.size + 2 ≤ q ∧ q < wr.heap.size := fun q hq => own1.lt q (mem_ownL.1 hq)
          clear hall hall4
          obtain ⟨u0, u1⟩ : w8.cell? ⟨w5.heap.size, 0, none⟩ = some (.string ⟨qb.toArray⟩) ∧ w8.cell? ⟨w5.heap.size, 1, none⟩ = some (.int .i64 0) := ⟨bP8.cell 0, bP8.cell 1⟩
          have uf := bP8.frozen 1
          have ul := bP8.lt
          obtain ⟨z0, z1⟩ : (w8.setCell ⟨w5.heap.size, 1, none⟩ (.int .i64 qt)).cell? ⟨w5.heap.size, 0, none⟩ = some (.string ⟨qb.toArray⟩) ∧ (w8.setCell ⟨w5.heap.size, 1, none⟩ (.int .i64 qt)).cell? ⟨w5.heap.size, 1, none⟩ = some (.int .i64 qt) := ⟨bP9.cell 0, bP9.cell 1⟩
          obtain ⟨l0, l1, l2, l3, l4, lf⟩ := P9.loc.fiveR
          have szW : (w8.setCell ⟨w5.heap.size, 1, none⟩ (.int .i64 qt)).heap.size = w8.heap.size := by simp
          have lP9 := P9.loc.lt
          go_wp2_with (at_builtin; refine wpList_append_lies _ rfl _ _ 32 rfl (w.heap.size + 2) 53 i0 (.agg #[.string ⟨#[]⟩, .int .i64 0]) 2 24 Tryz.underlying32 hi0 hz0 hz1 hz2 rfl (by decide) _ _ _ rfl own4 ⟨w8.heap.size, 0, none⟩ 1 1 [.string ⟨qb.toArray⟩, .int .i64 qt] rfl rfl ?c1 ?c2 ?c3 ?c4 ?c5 ?c6 (w8.heap.size + 1) ?c7 ?_)
          case c1 => exact news_cells _ _ _ _ (by simp)
          case c2 => simp [Value.oneCell']
          case c3 => omega
          case c4 => simp only [maxLen]; omega
          case c5 => omega
          case c6 => simp; omega
          case c7 => simp
          intro g cap w10 hown5 hgr hat hglt
          have lg : w.heap.size + 2 ≤ g := (hown5.lt g rfl).1
          have kk := Keep.grownBy hgr (ownL (.slice va 0 vc)) (fun k hk => mem_ownL.2 hk)
          have b10 := (P9.loc.alloc (.cells #[.string ⟨qb.toArray⟩, .int .i64 qt] 53)).keep kk (fun hq => by have := (lown _ hq).1; omega)
          have b11 := b10.set 1 (.slice (some ⟨g, 0, none⟩) (0 + 1) cap)
          simp only [List.set_cons_zero, List.set_cons_succ] at b11
          have kS := Keep.set w10 ⟨w.heap.size + 1, 1, none⟩ (.slice (some ⟨g, 0, none⟩) (0 + 1) cap)
          have r11 := ((P9.rd.ext ((Ext.refl _).alloc (.cells #[.string ⟨qb.toArray⟩, .int .i64 qt] 53))).keep kk (fun q hq => by have := (lown q hq).1; omega)).keep kS (fun q hq => by simp only [List.mem_singleton] at hq; omega)
          have kA : Keep (br :: (w.heap.size + 1) :: ownL (.slice va 0 vc)) (w8.setCell ⟨w5.heap.size, 1, none⟩ (.int .i64 qt)) (w10.setCell ⟨w.heap.size + 1, 1, none⟩ (.slice (some ⟨g, 0, none⟩) (0 + 1) cap)) :=
            (((Keep.refl _ _).alloc _).trans kk (fun q hq => .inl (by simp [hq]))).trans kS (by simp)
          have P11 := P9.push (v := .slice va 0 vc) r11 b11 kA (fun q hq => (lown q hq).1)
          have own11 := ownsRow_keep hown5 kS (fun b hb _ hq => by simp only [List.mem_singleton] at hb; subst hb; simp only [Value.ownBlock, Option.some.injEq] at hq; omega)
          have hsn := OwnX.snoc (E := paEnc) (T := 53) (a := ⟨qb, qt⟩) HALL.out (show _ = _ from rfl) hown5 hgr (fun q hq => by
            simp only [Value.ownBlock, Option.some.injEq] at hq
            subst hq
            rcases hat with hat | hat
            · exact .inl hat
            · right; rw [hat]; simp)
          have hsn11 := hsn.keep kS (fun q hq _ => by simp only [List.mem_singleton] at hq; omega)
          obtain ⟨v0, v1, v2, v3, v4, vf⟩ := b10.fiveR
          have lb10 := b10.lt
          clear l0 l1 l2 l3 l4 lf u0 u1 uf z0 z1 hgr own4 own
          rw [← aft_par] at P11
          rcases HST.out with ⟨x, r, h1, h2, h3, h4⟩ | ⟨x, q, h1, h2⟩
          · obtain ⟨nm', t', g1, g2, rfl⟩ := giv_par (n := n) h2
            obtain rfl := HQN.out nm' g1
            obtain rfl := HQT.out t' g2
            rw [h1] at P11
            have H3 := hid h3
            clear h1 h2 h3 g1 g2
            go_wp2_with fail
            go_roundg (k + 1)
            case measure => omega
            case rel => exact ⟨some ⟨g, 0, none⟩, 0 + 1, cap, _, P11, by have := HM.out; omega, by omega, ⟨_, own11⟩, .inl ⟨[] ++ [⟨qb, qt⟩], r, rfl, by simp, hsn11, by rw [List.length_append, List.length_singleton]; omega, by omega, by first | (rw [H3.out]; rfl) | (rw [H3.out, show ([] ++ [⟨qb, qt⟩] : List Pa).isEmpty = false by simp]; rfl)⟩⟩
          · rw [h1] at P11
            have H2 := hid h2
            clear h1 h2
            go_wp2_with fail
            go_roundg (k + 1)
            case measure => omega
            case rel => exact ⟨some ⟨g, 0, none⟩, 0 + 1, cap, _, P11, by have := HM.out; omega, by omega, ⟨_, own11⟩, .inr ⟨x, q, rfl, H2.out⟩⟩
        · have hmp : ((m : Int) > 0) := by
            have : acc.length ≠ 0 := by simpa using hacc
            have := HM.out
            omega
          have HAE := hid (show acc.isEmpty = false by simpa using hacc)
          clear hacc
          have HST := hid (par_more (n := n) HWU.out (show R = must [44] vs1 fun ts' => (paramS ts').bind fun a r => listGo paramS k false (acc ++ [a]) r by rw [HRB.out, HAE.out]; rfl))
          clear HRB
          go_wp2_with fail
          refine (rIs_any wr br n _ FA.rd [41]).mono ?_
          rintro e' w3 ⟨rfl, mm, rfl⟩
          rw [show isS [41] (.ok vs1) = false from H41.out]
          have FC := FA.call (FA.rd.drewN mm) (Keep.drewN' _ _ mm)
          obtain ⟨y0, y1, y2, y3, y4, yf⟩ := FC.loc.fiveR
          have lF := FC.loc.lt
          go_wp2_with fail
          refine (rMust_any _ br n _ FC.rd [44]).mono ?_
          rintro e' wC ⟨rfl, rC, kC⟩
          have FB := FC.call rC kC
          have kW := (Keep.drewN' [br] wr mm).trans' kC
          go_wp2_with fail
          refine (rName_any _ br n _ FB.rd).mono ?_
          rintro e' w5 ⟨⟨qa, qb, qc, qd, rfl, hqn⟩, r5, k5⟩
          have HQN := hid hqn
          have szF := FB.keep.size
          have szw := kW.size
          have sz5 := k5.size
          clear hqn y0 y1 y2 y3 y4 yf lF c0 c1 c2 c3 c4 cf rb hraw
          have P5 := FB.call r5 k5
          have lP5 := P5.loc.lt
          have P6 := P5.alloc (.cells #[.string ⟨qb.toArray⟩, .int .i64 0] 53)
          have bP := Blk.new w5 53 [.string ⟨qb.toArray⟩, .int .i64 0]
          go_wp2_with fail
          refine (rMust_any _ br n _ P6.rd [58]).mono ?_
          rintro e' w7 ⟨rfl, r7, k7⟩
          have P7 := P6.call r7 k7
          have bP7 := bP.keep k7 (by simp; omega)
          go_wp2_with fail
          refine (rTyp_any _ br n _ P7.rd).mono ?_
          rintro e' w8 ⟨⟨qt, rfl, hqt⟩, r8, k8⟩
          have HQT := hid hqt
          clear hqt
          have P8 := P7.call r8 k8
          have bP8 := bP7.keep k8 (by simp; omega)
          have bP9 := bP8.set 1 (.int .i64 qt)
          simp only [List.set_cons_zero, List.set_cons_succ] at bP9
          have P9 := P8.setO (b := w5.heap.size) (by omega) 1 (.int .i64 qt)
          have KK : Keep [br] wr (w8.setCell ⟨w5.heap.size, 1, none⟩ (.int .i64 qt)) := ((((kW.trans' k5).alloc _).trans' k7).trans' k8).setCell (.inr (by show wr.heap.size ≤ w5.heap.size; omega)) _
          obtain ⟨ks, own, hall⟩ := HOX.out.keep KK (by simp; omega)
          rw [← HM.out] at own
          have own4 := own.alloc (.cells #[.string ⟨qb.toArray⟩, .int .i64 qt] 53)
          have hall4 := paEnc.carries (Carry.keep (Keep.ofExt ((Ext.refl (w8.setCell ⟨w5.heap.size, 1, none⟩ (.int .i64 qt))).alloc (.cells #[.string ⟨qb.toArray⟩, .int .i64 qt] 53)) : Keep [] _ _) (by simp) (fun b _ hf => hf)) _ _ hall
          have HALL := hid hall4
          have lown : ∀ q ∈ ownL (.slice va m vc), w.heap.size + 2 ≤ q ∧ q < wr.heap.size := fun q hq => own1.lt q (mem_ownL.1 hq)
          clear hall hall4
          obtain ⟨u0, u1⟩ : w8.cell? ⟨w5.heap.size, 0, none⟩ = some (.string ⟨qb.toArray⟩) ∧ w8.cell? ⟨w5.heap.size, 1, none⟩ = some (.int .i64 0) := ⟨bP8.cell 0, bP8.cell 1⟩
          have uf := bP8.frozen 1
          have ul := bP8.lt
          obtain ⟨z0, z1⟩ : (w8.setCell ⟨w5.heap.size, 1, none⟩ (.int .i64 qt)).cell? ⟨w5.heap.size, 0, none⟩ = some (.string ⟨qb.toArray⟩) ∧ (w8.setCell ⟨w5.heap.size, 1, none⟩ (.int .i64 qt)).cell? ⟨w5.heap.size, 1, none⟩ = some (.int .i64 qt) := ⟨bP9.cell 0, bP9.cell 1⟩
          obtain ⟨l0, l1, l2, l3, l4, lf⟩ := P9.loc.fiveR
          have szW : (w8.setCell ⟨w5.heap.size, 1, none⟩ (.int .i64 qt)).heap.size = w8.heap.size := by simp
          have lP9 := P9.loc.lt
          go_wp2_with (at_builtin; refine wpList_append_lies _ rfl _ _ 32 rfl (w.heap.size + 2) 53 i0 (.agg #[.string ⟨#[]⟩, .int .i64 0]) 2 24 Tryz.underlying32 hi0 hz0 hz1 hz2 rfl (by decide) _ _ _ rfl own4 ⟨w8.heap.size, 0, none⟩ 1 1 [.string ⟨qb.toArray⟩, .int .i64 qt] rfl rfl ?c1 ?c2 ?c3 ?c4 ?c5 ?c6 (w8.heap.size + 1) ?c7 ?_)
          case c1 => exact news_cells _ _ _ _ (by simp)
          case c2 => simp [Value.oneCell']
          case c3 => omega
          case c4 => simp only [maxLen]; omega
          case c5 => omega
          case c6 => simp; omega
          case c7 => simp
          intro g cap w10 hown5 hgr hat hglt
          have lg : w.heap.size + 2 ≤ g := (hown5.lt g rfl).1
          have kk := Keep.grownBy hgr (ownL (.slice va m vc)) (fun k hk => mem_ownL.2 hk)
          have b10 := (P9.loc.alloc (.cells #[.string ⟨qb.toArray⟩, .int .i64 qt] 53)).keep kk (fun hq => by have := (lown _ hq).1; omega)
          have b11 := b10.set 1 (.slice (some ⟨g, 0, none⟩) (m + 1) cap)
          simp only [List.set_cons_zero, List.set_cons_succ] at b11
          have kS := Keep.set w10 ⟨w.heap.size + 1, 1, none⟩ (.slice (some ⟨g, 0, none⟩) (m + 1) cap)
          have r11 := ((P9.rd.ext ((Ext.refl _).alloc (.cells #[.string ⟨qb.toArray⟩, .int .i64 qt] 53))).keep kk (fun q hq => by have := (lown q hq).1; omega)).keep kS (fun q hq => by simp only [List.mem_singleton] at hq; omega)
          have kA : Keep (br :: (w.heap.size + 1) :: ownL (.slice va m vc)) (w8.setCell ⟨w5.heap.size, 1, none⟩ (.int .i64 qt)) (w10.setCell ⟨w.heap.size + 1, 1, none⟩ (.slice (some ⟨g, 0, none⟩) (m + 1) cap)) :=
            (((Keep.refl _ _).alloc _).trans kk (fun q hq => .inl (by simp [hq]))).trans kS (by simp)
          have P11 := P9.push (v := .slice va m vc) r11 b11 kA (fun q hq => (lown q hq).1)
          have own11 := ownsRow_keep hown5 kS (fun b hb _ hq => by simp only [List.mem_singleton] at hb; subst hb; simp only [Value.ownBlock, Option.some.injEq] at hq; omega)
          have hsn := OwnX.snoc (E := paEnc) (T := 53) (a := ⟨qb, qt⟩) HALL.out (show _ = _ from rfl) (by rw [← HM.out]; exact hown5) hgr (fun q hq => by
            simp only [Value.ownBlock, Option.some.injEq] at hq
            subst hq
            rcases hat with hat | hat
            · exact .inl hat
            · right; rw [hat]; simp)
          have hsn11 := hsn.keep kS (fun q hq _ => by simp only [List.mem_singleton] at hq; omega)
          obtain ⟨v0, v1, v2, v3, v4, vf⟩ := b10.fiveR
          have lb10 := b10.lt
          clear l0 l1 l2 l3 l4 lf u0 u1 uf z0 z1 hgr own4 own
          rw [← aft_par] at P11
          rcases HST.out with ⟨x, r, h1, h2, h3, h4⟩ | ⟨x, q, h1, h2⟩
          · obtain ⟨nm', t', g1, g2, rfl⟩ := giv_par (n := n) h2
            obtain rfl := HQN.out nm' g1
            obtain rfl := HQT.out t' g2
            rw [h1] at P11
            have H3 := hid h3
            clear h1 h2 h3 g1 g2
            go_wp2_with fail
            go_roundg (k + 1)
            case measure => omega
            case rel => exact ⟨some ⟨g, 0, none⟩, m + 1, cap, _, P11, by have := HM.out; omega, by omega, ⟨_, own11⟩, .inl ⟨acc ++ [⟨qb, qt⟩], r, rfl, by simpa using HM.out, hsn11, by rw [List.length_append, List.length_singleton]; omega, by omega, by first | (rw [H3.out]; rfl) | (rw [H3.out, show (acc ++ [⟨qb, qt⟩] : List Pa).isEmpty = false by simp]; rfl)⟩⟩
          · rw [h1] at P11
            have H2 := hid h2
            clear h1 h2
            go_wp2_with fail
            go_roundg (k + 1)
            case measure => omega
            case rel => exact ⟨some ⟨g, 0, none⟩, m + 1, cap, _, P11, by have := HM.out; omega, by omega, ⟨_, own11⟩, .inr ⟨x, q, rfl, H2.out⟩⟩
    · obtain ⟨hx0, rest, hraw⟩ := FA.rd.rawBad
      have hx0' : ((x : Int) == 0) = false := by simp; omega
      obtain ⟨ra, rlen, rcap, rk, _, _, _, rb, _⟩ := hraw.blk
      obtain ⟨c0, c1, c2, c3, c4, cf⟩ := rb.fiveR
      have HRA := hid hR
      clear hR
      have FB := FA
      have kT := Keep.refl [br, w.heap.size, w.heap.size + 1] wr
      go_wp2_with fail
      refine (rMust_any _ br n _ FB.rd [41]).mono ?_
      rintro e' w5 ⟨rfl, r5, k5⟩
      have r5' : ReAt w5 br n (toS n R) := by
        rw [HRA.out]
        exact r5
      have B5 := FB.call r5' k5
      have kT := kT.trans k5 (by simp)
      clear r5 r5' c0 c1 c2 c3 c4 cf rb hraw
      obtain ⟨S5, hS5⟩ : ∃ S5, S5 = toS n R := ⟨_, rfl⟩
      rw [← hS5] at B5
      have HS5 := hid hS5
      clear hS5
      cases hs : isS [58] S5 with
      | false =>
        have HC := hid hs
        clear hs
        go_wp2_with fail
        refine (rTake_any _ br n _ B5.rd [58]).mono ?_
        rintro e' w6 ⟨rfl, r6, k6⟩
        rw [HC.out]
        rw [tkS_no HC.out] at r6
        have B6 := B5.call r6 k6
        have kT := kT.trans k6 (by simp)
        go_wp2_with fail
        refine (HBK.out _ br n _ B6.rd).mono ?_
        rintro e' w9 ⟨⟨bva, bm, bvc, rfl, hbl⟩, r9, k9⟩
        have HBL := hid hbl
        clear hbl
        have szA := B6.keep.size
        have B9 := B6.call r9 k9
        have B10 := B9.set 3 (.slice bva bm bvc)
        simp only [List.set_cons_zero, List.set_cons_succ] at B10
        obtain ⟨n0, n1, n2, n3, n4, nf⟩ := B9.loc.fiveR
        obtain ⟨l0, l1, l2, l3, l4, lf⟩ := B10.loc.fiveR
        obtain ⟨m0, m1, m2, m3, m4, mf⟩ := B10.res.fiveR
        have lr7 := B10.res.lt
        have lr8 := B10.loc.lt
        have lr9 := B9.loc.lt
        have bF := B10.res.put5 (.string ⟨nb.toArray⟩) (.slice va m vc) (.int .i64 0) (.slice bva bm bvc) (.int .i64 p)
        have kF := Keep.put5 (w9.setCell ⟨w.heap.size + 1, 3, none⟩ (.slice bva bm bvc)) w.heap.size (.string ⟨nb.toArray⟩) (.slice va m vc) (.int .i64 0) (.slice bva bm bvc) (.int .i64 p)
        obtain ⟨x0, x1, x2, x3, x4, _⟩ := bF.fiveR
        have kB := ((Keep.refl [w.heap.size + 1, w.heap.size] w9).setCell (p := ⟨w.heap.size + 1, 3, none⟩) (by simp) (.slice bva bm bvc)).trans kF (by simp)
        have kT := ((kT.trans k9 (by simp)).setCell (p := ⟨w.heap.size + 1, 3, none⟩) (by simp) (.slice bva bm bvc)).trans kF (by simp)
        go_wp2_with fail
        refine bodyPost_ret (v := .agg #[.string ⟨nb.toArray⟩, .slice va m vc, .int .i64 0, .slice bva bm bvc, .int .i64 p]) (by simp [results, Tryz.results13, go_sem, x0, x1, x2, x3, x4]) rfl ⟨⟨_, rfl, ⟨nb, va, m, vc, 0, bva, bm, bvc, p, rfl⟩, fun x hg => ?_⟩, ?_, B10.keep.trans kF (by simp)⟩
        · obtain ⟨r, hg⟩ := giv_ok hg
          rw [HP.out] at hg
          have hg := show Giv (funR (BK 32) p) (.ok us) x from ⟨_, r, rfl, hg⟩
          obtain ⟨_, _, hg⟩ := giv_sq n hg
          obtain ⟨nm, gN, hg⟩ := giv_sq n hg
          obtain ⟨_, _, hg⟩ := giv_sq n hg
          obtain ⟨ps, gP, hg⟩ := giv_sq n hg
          obtain rfl := HNM.out nm gN
          rw [← HS3.out] at gP hg
          obtain ⟨r', hRl⟩ := HR2.out ps gP
          have := HRA.out
          rw [hRl] at this
          cases this
        · simp only [aft]
          rw [HP.out]
          show ReAt _ br n (aft n (funR (BK 32) p) (.ok us))
          rw [aft_fun, ← HS3.out, ← HR1.out, ← HS5.out, resS, HC.out, if_neg (by decide)]
          exact B10.rd.keep kF (by have := B10.lt; simp; omega)
      | true =>
        have HC := hid hs
        clear hs
        go_wp2_with fail
        refine (rTake_any _ br n _ B5.rd [58]).mono ?_
        rintro e' w6 ⟨rfl, r6, k6⟩
        rw [HC.out]
        have B6 := B5.call r6 k6
        have kT := kT.trans k6 (by simp)
        go_wp2_with fail
        refine (rTyp_any _ br n _ B6.rd).mono ?_
        rintro e' w7 ⟨⟨ty, rfl, hty⟩, r7, k7⟩
        have HTY := hid hty
        clear hty
        have B7 := B6.call r7 k7
        have B8 := B7.set 2 (.int .i64 ty)
        simp only [List.set_cons_zero, List.set_cons_succ] at B8
        have kT := (kT.trans k7 (by simp)).setCell (p := ⟨w.heap.size + 1, 2, none⟩) (by simp) (.int .i64 ty)
        obtain ⟨l0, l1, l2, l3, l4, lf⟩ := B7.loc.fiveR
        have lB := B7.loc.lt
        go_wp2_with fail
        refine (HBK.out _ br n _ B8.rd).mono ?_
        rintro e' w9 ⟨⟨bva, bm, bvc, rfl, hbl⟩, r9, k9⟩
        have HBL := hid hbl
        clear hbl l0 l1 l2 l3 l4 lf lB
        have szA := B8.keep.size
        have B9 := B8.call r9 k9
        have B10 := B9.set 3 (.slice bva bm bvc)
        simp only [List.set_cons_zero, List.set_cons_succ] at B10
        obtain ⟨n0, n1, n2, n3, n4, nf⟩ := B9.loc.fiveR
        obtain ⟨l0, l1, l2, l3, l4, lf⟩ := B10.loc.fiveR
        obtain ⟨m0, m1, m2, m3, m4, mf⟩ := B10.res.fiveR
        have lr7 := B10.res.lt
        have lr8 := B10.loc.lt
        have lr9 := B9.loc.lt
        have bF := B10.res.put5 (.string ⟨nb.toArray⟩) (.slice va m vc) (.int .i64 ty) (.slice bva bm bvc) (.int .i64 p)
        have kF := Keep.put5 (w9.setCell ⟨w.heap.size + 1, 3, none⟩ (.slice bva bm bvc)) w.heap.size (.string ⟨nb.toArray⟩) (.slice va m vc) (.int .i64 ty) (.slice bva bm bvc) (.int .i64 p)
        obtain ⟨x0, x1, x2, x3, x4, _⟩ := bF.fiveR
        have kB := ((Keep.refl [w.heap.size + 1, w.heap.size] w9).setCell (p := ⟨w.heap.size + 1, 3, none⟩) (by simp) (.slice bva bm bvc)).trans kF (by simp)
        have kT := ((kT.trans k9 (by simp)).setCell (p := ⟨w.heap.size + 1, 3, none⟩) (by simp) (.slice bva bm bvc)).trans kF (by simp)
        go_wp2_with fail
        refine bodyPost_ret (v := .agg #[.string ⟨nb.toArray⟩, .slice va m vc, .int .i64 ty, .slice bva bm bvc, .int .i64 p]) (by simp [results, Tryz.results13, go_sem, x0, x1, x2, x3, x4]) rfl ⟨⟨_, rfl, ⟨nb, va, m, vc, ty, bva, bm, bvc, p, rfl⟩, fun x hg => ?_⟩, ?_, B10.keep.trans kF (by simp)⟩
        · obtain ⟨r, hg⟩ := giv_ok hg
          rw [HP.out] at hg
          have hg := show Giv (funR (BK 32) p) (.ok us) x from ⟨_, r, rfl, hg⟩
          obtain ⟨_, _, hg⟩ := giv_sq n hg
          obtain ⟨nm, gN, hg⟩ := giv_sq n hg
          obtain ⟨_, _, hg⟩ := giv_sq n hg
          obtain ⟨ps, gP, hg⟩ := giv_sq n hg
          obtain rfl := HNM.out nm gN
          rw [← HS3.out] at gP hg
          obtain ⟨r', hRl⟩ := HR2.out ps gP
          have := HRA.out
          rw [hRl] at this
          cases this
        · simp only [aft]
          rw [HP.out]
          show ReAt _ br n (aft n (funR (BK 32) p) (.ok us))
          rw [aft_fun, ← HS3.out, ← HR1.out, ← HS5.out, resS, HC.out, if_pos rfl]
          exact B10.rd.keep kF (by have := B10.lt; simp; omega)
end Go.Proofs.YtaehlakefgnfmaaGreatDoor
