/-
  DERIVED. THE DOCUMENT's READING: its states, plainly; the reader in memory.
-/
import Derived.Test.YtaehlakefgnfmaaGreatDoorKeep
import Derived.Test.YtaehlakefgnfmaaGreatDoorSyn
import Derived.Test.YtaehlakefgnfmaaGreatDoorPhase
namespace Go.Proofs.YtaehlakefgnfmaaGreatDoor
set_option linter.unusedSimpArgs false
set_option linter.unusedVariables false
set_option maxRecDepth 100000
open Go.RowKit

/-- What the document's reading has come to: tokens that are left; or an error, and where. -/
inductive Rz where
  | ok (ts : List Tok)
  | bad (x p : Nat)
def toS {α : Type} (n : Nat) : Res α → Rz
  | .ok _ r => .ok r
  | .err x r => .bad x (placeOf n r)
/-- Behind a reading. -/
def aft {α : Type} (n : Nat) (P : Rd α) : Rz → Rz
  | .ok ts => toS n (P ts)
  | .bad x p => .bad x p
/-- What it gives. -/
def Giv {α : Type} (P : Rd α) (S : Rz) (a : α) : Prop := ∃ ts r, S = .ok ts ∧ P ts = .ok a r
def sqR {α β : Type} (P : Rd α) (k : α → Rd β) : Rd β := fun ts => (P ts).bind k
def signR (s : List UInt8) : Rd Unit := fun ts => must s ts fun r => .ok () r
def nameR : Rd (List UInt8) := fun ts => name ts fun nm r => .ok nm r
def retR {α : Type} (a : α) : Rd α := fun ts => .ok a ts
theorem must_sq {β : Type} (s : List UInt8) (k : List Tok → Res β) (ts : List Tok) : must s ts k = sqR (signR s) (fun _ => k) ts := by
  unfold must sqR signR must
  split <;> rfl
theorem name_sq {β : Type} (k : List UInt8 → List Tok → Res β) (ts : List Tok) : name ts k = sqR nameR k ts := by
  unfold name sqR nameR name
  split <;> rfl
theorem aft_ret {α : Type} (n : Nat) (a : α) (S : Rz) : aft n (retR a) S = S := by cases S <;> rfl
/-- One reading behind another, the state of which doesn't hang on what the first gives. -/
theorem aft_sq {α β : Type} {n : Nat} {P : Rd α} {k : α → Rd β} {S : Rz} {F : Rz → Rz} (h : ∀ a S, aft n (k a) S = F S) (hF : ∀ x p, F (.bad x p) = .bad x p) : aft n (sqR P k) S = F (aft n P S) := by
  cases S with
  | bad x p => exact (hF x p).symm
  | ok ts =>
    simp only [aft, sqR]
    cases hp : P ts with
    | ok a r => have := h a (.ok r); simp only [aft] at this; simp only [Res.bind, toS]; exact this
    | err x r => simp only [Res.bind, toS]; exact (hF _ _).symm
theorem giv_sq {α β : Type} {P : Rd α} {k : α → Rd β} {S : Rz} {b : β} (n : Nat) (h : Giv (sqR P k) S b) : ∃ a, Giv P S a ∧ Giv (k a) (aft n P S) b := by
  obtain ⟨ts, r, rfl, h⟩ := h
  simp only [sqR] at h
  cases hp : P ts with
  | ok a r' =>
    rw [hp] at h
    exact ⟨a, ⟨ts, r', rfl, hp⟩, r', r, by simp only [aft, hp, toS], h⟩
  | err x r' => rw [hp] at h; cases h
theorem giv_ret {α : Type} {a b : α} {S : Rz} (h : Giv (retR a) S b) : b = a := by
  obtain ⟨ts, r, _, h⟩ := h
  cases h; rfl
theorem giv_ok {α : Type} {P : Rd α} {ts : List Tok} {a : α} (h : Giv P (.ok ts) a) : ∃ r, P ts = .ok a r := by
  obtain ⟨ts', r, e, h⟩ := h
  cases e; exact ⟨r, h⟩
theorem giv_bad {α : Type} {P : Rd α} {x p : Nat} {a : α} (h : Giv P (.bad x p) a) : False := by
  obtain ⟨ts', r, e, h⟩ := h
  cases e
theorem rz_drewN (w : World) (m n : Nat) : (w.drewN m).drewN n = w.drewN (m + n) := by simp [World.drewN, Nat.add_assoc]
def isS (s : List UInt8) : Rz → Bool
  | .ok ts => isSign s ts
  | .bad _ _ => false
/-- The state behind 'take'. -/
def tkS (s : List UInt8) : Rz → Rz
  | .ok ts => if isSign s ts then .ok ts.tail else .ok ts
  | .bad x p => .bad x p
theorem tkS_no {s : List UInt8} {S : Rz} (h : isS s S = false) : tkS s S = S := by
  cases S with
  | bad x p => rfl
  | ok ts => simp only [isS] at h; simp only [tkS, h]; rfl
theorem isS_ok {s : List UInt8} {S : Rz} (h : isS s S = true) : ∃ ts, S = .ok ts ∧ isSign s ts = true := by
  cases S with
  | bad x p => cases h
  | ok ts => exact ⟨ts, rfl, h⟩
def flS (n x : Nat) : Rz → Rz
  | .ok ts => .bad x (placeOf n ts)
  | .bad y p => .bad y p

/-- The document's reader in memory: what is left, the error, its place; its tokens in an older block. -/
def ReRaw (w : World) (br n : Nat) (rest : List Tok) (e to : Nat) : Prop :=
  ∃ a cap all k, Blk w br 50 [.slice a all.length cap, .int .i64 (k : Nat), .int .i64 (e : Nat), .int .i64 (to : Nat), .int .i64 n] ∧ CellsIn w (· < br) a (all.flatMap encTok) ∧ all.length ≤ cap ∧ all.length ≤ 2048 ∧ k ≤ all.length ∧ Wf all ∧ rest = all.drop k
def RzIs (rest : List Tok) (e to : Nat) : Rz → Prop
  | .ok ts => e = 0 ∧ ts = rest
  | .bad x p => e = x ∧ x ≠ 0 ∧ to = p
def ReAt (w : World) (br n : Nat) (S : Rz) : Prop := ∃ rest e to, ReRaw w br n rest e to ∧ RzIs rest e to S
theorem ReRaw.lt {w : World} {br n e to : Nat} {rest : List Tok} (h : ReRaw w br n rest e to) : br < w.heap.size := by
  obtain ⟨a, cap, all, k, h1, _⟩ := h
  exact h1.lt
theorem ReRaw.wf {w : World} {br n e to : Nat} {rest : List Tok} (h : ReRaw w br n rest e to) : Wf rest ∧ rest.length ≤ 2048 := by
  obtain ⟨a, cap, all, i, _, _, _, h4, _, h6, rfl⟩ := h
  exact ⟨fun t ht => h6 t (List.mem_of_mem_drop ht), by rw [List.length_drop]; omega⟩
theorem ReRaw.keep {w w' : World} {br n e to : Nat} {rest : List Tok} {T : List Nat} (h : ReRaw w br n rest e to) (k : Keep T w w') (hS : ∀ b ∈ T, br < b ∨ w.heap.size ≤ b) : ReRaw w' br n rest e to := by
  obtain ⟨a, cap, all, i, h1, h2, h3⟩ := h
  have := h1.lt
  refine ⟨a, cap, all, i, h1.keep k (fun hb => ?_), h2.keep k (fun b hb hl => ?_), h3⟩
  · have := hS br hb; omega
  · have := hS b hb; omega
theorem ReAt.lt {w : World} {br n : Nat} {S : Rz} (h : ReAt w br n S) : br < w.heap.size := by
  obtain ⟨_, _, _, h, _⟩ := h
  exact h.lt
theorem ReAt.keep {w w' : World} {br n : Nat} {S : Rz} {T : List Nat} (h : ReAt w br n S) (k : Keep T w w') (hS : ∀ b ∈ T, br < b ∨ w.heap.size ≤ b) : ReAt w' br n S := by
  obtain ⟨r, e, to, h1, h2⟩ := h
  exact ⟨r, e, to, h1.keep k hS, h2⟩
theorem ReAt.ext {w w' : World} {br n : Nat} {S : Rz} (h : ReAt w br n S) (e : Ext w w') : ReAt w' br n S := h.keep (T := []) (.ofExt e) (by simp)
theorem ReAt.set {w : World} {br n : Nat} {S : Rz} (h : ReAt w br n S) {b : Nat} (hb : br < b) (i : Nat) (v : Value) : ReAt (w.setCell ⟨b, i, none⟩ v) br n S := h.keep (Keep.set w ⟨b, i, none⟩ v) (by simpa using Or.inl hb)
theorem ReAt.drewN {w : World} {br n : Nat} {S : Rz} (h : ReAt w br n S) (m : Nat) : ReAt (w.drewN m) br n S := h.ext (Keep.ext (Keep.drewN (Keep.refl _ _) m))
theorem ReAt.wf {w : World} {br n : Nat} {ts : List Tok} (h : ReAt w br n (.ok ts)) : Wf ts ∧ ts.length ≤ 2048 := by
  obtain ⟨r, e, to, h1, _, rfl⟩ := h
  exact h1.wf
theorem ReAt.raw {w : World} {br n : Nat} {ts : List Tok} (h : ReAt w br n (.ok ts)) : ∃ to, ReRaw w br n ts 0 to := by
  obtain ⟨r, e, to, h1, rfl, rfl⟩ := h
  exact ⟨to, h1⟩
theorem ReAt.rawBad {w : World} {br n x p : Nat} (h : ReAt w br n (.bad x p)) : x ≠ 0 ∧ ∃ r, ReRaw w br n r x p := by
  obtain ⟨r, e, to, h1, rfl, hx, rfl⟩ := h
  exact ⟨hx, r, h1⟩
theorem ReRaw.at {w : World} {br n to : Nat} {ts : List Tok} (h : ReRaw w br n ts 0 to) : ReAt w br n (.ok ts) := ⟨ts, 0, to, h, rfl, rfl⟩
theorem ReRaw.atBad {w : World} {br n x p : Nat} {r : List Tok} (h : ReRaw w br n r x p) (hx : x ≠ 0) : ReAt w br n (.bad x p) := ⟨r, x, p, h, rfl, hx, rfl⟩
/-- Its block. -/
theorem ReRaw.blk {w : World} {br n e to : Nat} {rest : List Tok} (h : ReRaw w br n rest e to) : ∃ a len cap k, len ≤ 2048 ∧ len ≤ cap ∧ k ≤ len ∧ Blk w br 50 [.slice a len cap, .int .i64 (k : Nat), .int .i64 (e : Nat), .int .i64 (to : Nat), .int .i64 n] ∧
    (∀ (w' : World) (e' to' : Nat), Keep [br] w w' → Blk w' br 50 [.slice a len cap, .int .i64 (k : Nat), .int .i64 (e' : Nat), .int .i64 (to' : Nat), .int .i64 n] → ReRaw w' br n rest e' to') := by
  obtain ⟨a, cap, all, k, h1, h2, h3, h4, h5, h6, h7⟩ := h
  refine ⟨a, all.length, cap, k, h4, h3, h5, h1, fun w' e' to' kk hb => ⟨a, cap, all, k, hb, h2.keep kk (fun q hq _ => ?_), h3, h4, h5, h6, h7⟩⟩
  simp only [List.mem_singleton] at hq
  omega
/-- Where nothing is left. -/
theorem ReRaw.nil {w : World} {br n e to : Nat} (h : ReRaw w br n [] e to) : ∃ a len cap, len ≤ 2048 ∧ len ≤ cap ∧ Blk w br 50 [.slice a len cap, .int .i64 (len : Nat), .int .i64 (e : Nat), .int .i64 (to : Nat), .int .i64 n] := by
  obtain ⟨a, cap, all, i, h1, h2, h3, h4, h5, h6, hd⟩ := h
  have : i = all.length := by
    have := congrArg List.length hd
    rw [List.length_nil, List.length_drop] at this
    omega
  subst this
  exact ⟨a, all.length, cap, h4, h3, h1⟩
/-- Where a token is left; and behind it. -/
theorem ReRaw.cons {w : World} {br n e to : Nat} {t : Tok} {r : List Tok} (h : ReRaw w br n (t :: r) e to) : ∃ b off len cap k, len ≤ 2048 ∧ len ≤ cap ∧ k < len ∧ Hid (len = k + 1 + r.length) ∧ b < br ∧
    Blk w br 50 [.slice (some ⟨b, off, none⟩) len cap, .int .i64 (k : Nat), .int .i64 (e : Nat), .int .i64 (to : Nat), .int .i64 n] ∧
    w.cell? ⟨b, off + k * 4, none⟩ = some (.int .i64 t.kind) ∧ w.cell? ⟨b, off + k * 4 + 1, none⟩ = some (.string ⟨t.text.toArray⟩) ∧ w.cell? ⟨b, off + k * 4 + 2, none⟩ = some (.int .i64 t.num) ∧ w.cell? ⟨b, off + k * 4 + 3, none⟩ = some (.int .i64 t.place) ∧
    (∀ w' : World, Keep [br] w w' → Blk w' br 50 [.slice (some ⟨b, off, none⟩) len cap, .int .i64 ((k : Int) + 1), .int .i64 (e : Nat), .int .i64 (to : Nat), .int .i64 n] → ReRaw w' br n r e to) ∧
    (∀ (t' : Tok) (r' : List Tok), r = t' :: r' → w.cell? ⟨b, off + (k + 1) * 4, none⟩ = some (.int .i64 t'.kind) ∧ w.cell? ⟨b, off + (k + 1) * 4 + 1, none⟩ = some (.string ⟨t'.text.toArray⟩)) := by
  obtain ⟨a, cap, all, i, h1, h2, h3, h4, h5, h6, hd⟩ := h
  have hi : i < all.length := by
    have := congrArg List.length hd
    rw [List.length_cons, List.length_drop] at this
    omega
  have hc := List.drop_eq_getElem_cons hi
  rw [← hd] at hc
  obtain ⟨ht, hr⟩ := List.cons.inj hc
  obtain ⟨b, off, rfl, c0, c1, c2, c3⟩ := toks_at h2.at hi
  rw [← ht] at c0 c1 c2 c3
  obtain ⟨b', off', hb, hlt, _⟩ := h2 (i * 4) (.int .i64 all[i].kind) (by rw [show i * 4 = i * 4 + 0 by omega, flatMap_get all i hi 0 (by omega)]; rfl)
  simp only [Option.some.injEq, Addr.mk.injEq, and_true] at hb
  have hlen : all.length = i + 1 + r.length := by
    have := congrArg List.length hr
    rw [List.length_drop] at this
    omega
  refine ⟨b, off, all.length, cap, i, h4, h3, hi, hlen, by rw [hb.1]; exact hlt, h1, c0, c1, c2, c3, fun w' kk hb' => ?_, fun t' r' hr' => ?_⟩
  · refine ⟨some ⟨b, off, none⟩, cap, all, i + 1, by simpa using hb', h2.keep kk (fun q hq _ => ?_), h3, h4, by omega, h6, hr⟩
    simp only [List.mem_singleton] at hq
    omega
  · have hi2 : i + 1 < all.length := by rw [hlen, hr', List.length_cons]; omega
    have hc2 := List.drop_eq_getElem_cons hi2
    rw [← hr, hr'] at hc2
    obtain ⟨ht', _⟩ := List.cons.inj hc2
    obtain ⟨b2, off2, hb2, d0, d1, _, _⟩ := toks_at h2.at hi2
    simp only [Option.some.injEq, Addr.mk.injEq, and_true] at hb2
    obtain ⟨rfl, rfl⟩ := hb2
    rw [← ht'] at d0 d1
    exact ⟨d0, d1⟩
end Go.Proofs.YtaehlakefgnfmaaGreatDoor
/-
  DERIVED. THE WALKS of the document's reader's small methods: place, is, fail, take, must, kind, deep.
-/
namespace Go.Proofs.YtaehlakefgnfmaaGreatDoor
set_option linter.unusedSimpArgs false
set_option linter.unusedVariables false
set_option maxRecDepth 100000
open Go.RowKit

theorem Blk.fiveR {w : World} {b : Nat} {t : TypeId} {v0 v1 v2 v3 v4 : Value} (h : Blk w b t [v0, v1, v2, v3, v4]) :
    w.cell? ⟨b, 0, none⟩ = some v0 ∧ w.cell? ⟨b, 1, none⟩ = some v1 ∧ w.cell? ⟨b, 2, none⟩ = some v2 ∧ w.cell? ⟨b, 3, none⟩ = some v3 ∧ w.cell? ⟨b, 4, none⟩ = some v4 ∧ (∀ i, w.frozen? ⟨b, i, none⟩ = false) :=
  ⟨h.cell 0, h.cell 1, h.cell 2, h.cell 3, h.cell 4, h.frozen⟩
theorem Keep.drewN' (S : List Nat) (w : World) (m : Nat) : Keep S w (w.drewN m) := Keep.drewN (Keep.refl _ _) m
theorem Blk.drewN {w : World} {b : Nat} {t : TypeId} {vs : List Value} (h : Blk w b t vs) (m : Nat) : Blk (w.drewN m) b t vs := h
theorem Blk.put2 {w : World} {b : Nat} {t : TypeId} {u0 u1 : Value} (h : Blk w b t [u0, u1]) (v0 v1 : Value) : Blk ((w.setCell ⟨b, 0, none⟩ v0).setCell ⟨b, 1, none⟩ v1) b t [v0, v1] := by
  have := ((h.set 0 v0).set 1 v1)
  simpa only [List.set_cons_zero, List.set_cons_succ] using this
theorem Keep.put2 (w : World) (b : Nat) (v0 v1 : Value) : Keep [b] w ((w.setCell ⟨b, 0, none⟩ v0).setCell ⟨b, 1, none⟩ v1) := (((Keep.refl [b] w).setCell (p := ⟨b, 0, none⟩) (by simp) v0).setCell (p := ⟨b, 1, none⟩) (by simp) v1)
theorem Blk.put4 {w : World} {b : Nat} {t : TypeId} {u0 u1 u2 u3 : Value} (h : Blk w b t [u0, u1, u2, u3]) (v0 v1 v2 v3 : Value) : Blk ((((w.setCell ⟨b, 0, none⟩ v0).setCell ⟨b, 1, none⟩ v1).setCell ⟨b, 2, none⟩ v2).setCell ⟨b, 3, none⟩ v3) b t [v0, v1, v2, v3] := by
  have := ((((h.set 0 v0).set 1 v1).set 2 v2).set 3 v3)
  simpa only [List.set_cons_zero, List.set_cons_succ] using this
theorem Keep.put4 (w : World) (b : Nat) (v0 v1 v2 v3 : Value) : Keep [b] w ((((w.setCell ⟨b, 0, none⟩ v0).setCell ⟨b, 1, none⟩ v1).setCell ⟨b, 2, none⟩ v2).setCell ⟨b, 3, none⟩ v3) := (((((Keep.refl [b] w).setCell (p := ⟨b, 0, none⟩) (by simp) v0).setCell (p := ⟨b, 1, none⟩) (by simp) v1).setCell (p := ⟨b, 2, none⟩) (by simp) v2).setCell (p := ⟨b, 3, none⟩) (by simp) v3)
theorem Blk.put5 {w : World} {b : Nat} {t : TypeId} {u0 u1 u2 u3 u4 : Value} (h : Blk w b t [u0, u1, u2, u3, u4]) (v0 v1 v2 v3 v4 : Value) : Blk (((((w.setCell ⟨b, 0, none⟩ v0).setCell ⟨b, 1, none⟩ v1).setCell ⟨b, 2, none⟩ v2).setCell ⟨b, 3, none⟩ v3).setCell ⟨b, 4, none⟩ v4) b t [v0, v1, v2, v3, v4] := by
  have := (((((h.set 0 v0).set 1 v1).set 2 v2).set 3 v3).set 4 v4)
  simpa only [List.set_cons_zero, List.set_cons_succ] using this
theorem Keep.put5 (w : World) (b : Nat) (v0 v1 v2 v3 v4 : Value) : Keep [b] w (((((w.setCell ⟨b, 0, none⟩ v0).setCell ⟨b, 1, none⟩ v1).setCell ⟨b, 2, none⟩ v2).setCell ⟨b, 3, none⟩ v3).setCell ⟨b, 4, none⟩ v4) := ((((((Keep.refl [b] w).setCell (p := ⟨b, 0, none⟩) (by simp) v0).setCell (p := ⟨b, 1, none⟩) (by simp) v1).setCell (p := ⟨b, 2, none⟩) (by simp) v2).setCell (p := ⟨b, 3, none⟩) (by simp) v3).setCell (p := ⟨b, 4, none⟩) (by simp) v4)
theorem Blk.put6 {w : World} {b : Nat} {t : TypeId} {u0 u1 u2 u3 u4 u5 : Value} (h : Blk w b t [u0, u1, u2, u3, u4, u5]) (v0 v1 v2 v3 v4 v5 : Value) : Blk ((((((w.setCell ⟨b, 0, none⟩ v0).setCell ⟨b, 1, none⟩ v1).setCell ⟨b, 2, none⟩ v2).setCell ⟨b, 3, none⟩ v3).setCell ⟨b, 4, none⟩ v4).setCell ⟨b, 5, none⟩ v5) b t [v0, v1, v2, v3, v4, v5] := by
  have := ((((((h.set 0 v0).set 1 v1).set 2 v2).set 3 v3).set 4 v4).set 5 v5)
  simpa only [List.set_cons_zero, List.set_cons_succ] using this
theorem Keep.put6 (w : World) (b : Nat) (v0 v1 v2 v3 v4 v5 : Value) : Keep [b] w ((((((w.setCell ⟨b, 0, none⟩ v0).setCell ⟨b, 1, none⟩ v1).setCell ⟨b, 2, none⟩ v2).setCell ⟨b, 3, none⟩ v3).setCell ⟨b, 4, none⟩ v4).setCell ⟨b, 5, none⟩ v5) := (((((((Keep.refl [b] w).setCell (p := ⟨b, 0, none⟩) (by simp) v0).setCell (p := ⟨b, 1, none⟩) (by simp) v1).setCell (p := ⟨b, 2, none⟩) (by simp) v2).setCell (p := ⟨b, 3, none⟩) (by simp) v3).setCell (p := ⟨b, 4, none⟩) (by simp) v4).setCell (p := ⟨b, 5, none⟩) (by simp) v5)
set_option maxHeartbeats 4000000 in
theorem rPlace_raw (w : World) (br n e to : Nat) (rest : List Tok) (hr : ReRaw w br n rest e to) :
    Calls Tryz.prog 33 #[.pointer (some ⟨br, 0, none⟩)] w fun e w' => e = .returned (.int .i64 (placeOf n rest)) ∧ ∃ m, w' = w.drewN m := by
  cases rest with
  | nil =>
    obtain ⟨a, len, cap, h1, h2, hb⟩ := hr.nil
    obtain ⟨c0, c1, c2, c3, c4, cf⟩ := hb.fiveR
    go_enter Tryz.func33, Tryz.ntmps33
    go_wp2_with fail
    go_quiet (fail)
    go_wp2_with fail
    go_ret
    exact ⟨rfl, _, rfl⟩
  | cons t r =>
    obtain ⟨b, off, len, cap, k, h1, h2, h3, _, h5, hb, d0, d1, d2, d3, _, _⟩ := hr.cons
    obtain ⟨c0, c1, c2, c3, c4, cf⟩ := hb.fiveR
    go_enter Tryz.func33, Tryz.ntmps33
    go_wp2_with fail
    go_quiet (fail)
    go_wp2_with fail
    go_quiet (fail)
    go_wp2_with fail
    go_ret
    exact ⟨rfl, _, rz_drewN _ _ _⟩
theorem rPlace_any (w : World) (br n : Nat) (S : Rz) (hr : ReAt w br n S) :
    Calls Tryz.prog 33 #[.pointer (some ⟨br, 0, none⟩)] w fun e w' => (∃ p : Nat, e = .returned (.int .i64 p) ∧ ∀ ts, S = .ok ts → p = placeOf n ts) ∧ ∃ m, w' = w.drewN m := by
  obtain ⟨rest, e, to, h1, h2⟩ := hr
  refine (rPlace_raw w br n e to rest h1).mono fun e w' ⟨h3, h4⟩ => ⟨⟨_, h3, fun ts hts => ?_⟩, h4⟩
  subst hts
  rw [h2.2]
set_option maxHeartbeats 4000000 in
theorem rIs_any (w : World) (br n : Nat) (S : Rz) (hr : ReAt w br n S) (s : List UInt8) :
    Calls Tryz.prog 36 #[.pointer (some ⟨br, 0, none⟩), .string ⟨s.toArray⟩] w fun e w' => e = .returned (.bool (isS s S)) ∧ ∃ m, w' = w.drewN m := by
  cases S with
  | bad x p =>
    obtain ⟨hx, r, hr⟩ := hr.rawBad
    obtain ⟨a, len, cap, k, h1, h2, h3, hb, _⟩ := hr.blk
    obtain ⟨c0, c1, c2, c3, c4, cf⟩ := hb.fiveR
    have hx0 : ((x : Int) == 0) = false := by simp; omega
    go_enter Tryz.func36, Tryz.ntmps36
    go_wp2_with fail
    go_quiet (fail)
    go_wp2_with fail
    go_ret
    exact ⟨rfl, _, rfl⟩
  | ok ts =>
    obtain ⟨to, hr⟩ := hr.raw
    cases ts with
    | nil =>
      obtain ⟨a, len, cap, h1, h2, hb⟩ := hr.nil
      obtain ⟨c0, c1, c2, c3, c4, cf⟩ := hb.fiveR
      go_enter Tryz.func36, Tryz.ntmps36
      go_wp2_with fail
      go_quiet (fail)
      go_wp2_with fail
      go_ret
      exact ⟨rfl, _, rfl⟩
    | cons t r =>
      obtain ⟨b, off, len, cap, k, h1, h2, h3, _, h5, hb, d0, d1, d2, d3, _, _⟩ := hr.cons
      obtain ⟨c0, c1, c2, c3, c4, cf⟩ := hb.fiveR
      have hd : decide ((k : Int) < (len : Int)) = true := by simp; omega
      by_cases hk : t.kind = 4
      · have hki : ((t.kind : Int) == 4) = true := by rw [hk]; rfl
        cases ht : (t.text == s) with
        | true =>
          go_enter Tryz.func36, Tryz.ntmps36
          go_wp2_with fail
          go_quiet (fail)
          go_wp2_with fail
          go_ret
          exact ⟨by simp [isS, isSign, hk, ht], _, rfl⟩
        | false =>
          go_enter Tryz.func36, Tryz.ntmps36
          go_wp2_with fail
          go_quiet (fail)
          go_wp2_with fail
          go_ret
          exact ⟨by simp [isS, isSign, hk, ht], _, rfl⟩
      · have hki : ((t.kind : Int) == 4) = false := by simp; omega
        go_enter Tryz.func36, Tryz.ntmps36
        go_wp2_with fail
        go_quiet (fail)
        go_wp2_with fail
        go_ret
        exact ⟨by simp [isS, isSign, hk], _, rfl⟩
set_option maxHeartbeats 4000000 in
theorem rFail_any (w : World) (br n : Nat) (S : Rz) (hr : ReAt w br n S) (x : Nat) (hx : x ≠ 0) :
    Calls Tryz.prog 66 #[.pointer (some ⟨br, 0, none⟩), .int .i64 x] w fun e w' => e = .returned (.tuple #[]) ∧ ReAt w' br n (flS n x S) ∧ Keep [br] w w' := by
  cases S with
  | bad y p =>
    obtain ⟨hy, r, hr'⟩ := hr.rawBad
    obtain ⟨a, len, cap, k, h1, h2, h3, hb, _⟩ := hr'.blk
    obtain ⟨c0, c1, c2, c3, c4, cf⟩ := hb.fiveR
    have hy0 : ((y : Int) == 0) = false := by simp; omega
    go_enter Tryz.func66, Tryz.ntmps66
    go_wp2_with fail
    go_end0
    exact ⟨rfl, hr, Keep.refl _ _⟩
  | ok ts =>
    obtain ⟨to, hr⟩ := hr.raw
    have hlt := hr.lt
    obtain ⟨a, len, cap, k, h1, h2, h3, hb, hmk⟩ := hr.blk
    obtain ⟨c0, c1, c2, c3, c4, cf⟩ := hb.fiveR
    have hb2 := hb.set 2 (.int .i64 x)
    simp only [List.set_cons_succ, List.set_cons_zero] at hb2
    have hr2 := hmk _ x to (Keep.set w ⟨br, 2, none⟩ (.int .i64 x)) hb2
    have HMK := hid hmk
    clear hmk
    go_enter Tryz.func66, Tryz.ntmps66
    go_wp2_with fail
    refine (rPlace_raw _ br n x to ts hr2).mono ?_
    rintro e w2 ⟨rfl, m, rfl⟩
    have hb3 := (hb2.drewN m).set 3 (.int .i64 (placeOf n ts))
    simp only [List.set_cons_succ, List.set_cons_zero] at hb3
    obtain ⟨d0, d1, d2, d3, d4, df⟩ := (hb2.drewN m).fiveR
    have kk := ((Keep.set w ⟨br, 2, none⟩ (.int .i64 x)).trans' (Keep.drewN' _ _ m)).trans' (Keep.set _ ⟨br, 3, none⟩ (.int .i64 (placeOf n ts)))
    have HR := hid ((HMK.out _ x _ kk hb3).atBad hx)
    clear c0 c1 c2 c3 c4 cf hb hb2 hb3 hr2
    go_wp2_with fail
    go_end0
    exact ⟨rfl, HR.out, kk⟩
set_option maxHeartbeats 4000000 in
theorem rTake_any (w : World) (br n : Nat) (S : Rz) (hr : ReAt w br n S) (s : List UInt8) :
    Calls Tryz.prog 38 #[.pointer (some ⟨br, 0, none⟩), .string ⟨s.toArray⟩] w fun e w' => e = .returned (.bool (isS s S)) ∧ ReAt w' br n (tkS s S) ∧ Keep [br] w w' := by
  cases hs : isS s S with
  | false =>
    have HS := hid hs
    clear hs
    go_enter Tryz.func38, Tryz.ntmps38
    go_wp2_with fail
    refine (rIs_any w br n S hr s).mono ?_
    rintro e w2 ⟨rfl, m, rfl⟩
    rw [HS.out]
    go_wp2_with fail
    go_ret
    exact ⟨rfl, by rw [tkS_no HS.out]; exact hr.drewN m, Keep.drewN' _ _ m⟩
  | true =>
    obtain ⟨ts, rfl, hts⟩ := isS_ok hs
    obtain ⟨t, r, rfl, _⟩ := isSign_cons hts
    have HS := hid hs
    have HT := hid hts
    clear hs hts
    go_enter Tryz.func38, Tryz.ntmps38
    go_wp2_with fail
    refine (rIs_any w br n _ hr s).mono ?_
    rintro e w2 ⟨rfl, m, rfl⟩
    rw [HS.out]
    obtain ⟨to, hr1⟩ := (hr.drewN m).raw
    have hlt := hr1.lt
    obtain ⟨b, off, len, cap, k, h1, h2, h3, _, h5, hb, d0, d1, d2, d3, hmk, _⟩ := hr1.cons
    obtain ⟨c0, c1, c2, c3, c4, cf⟩ := hb.fiveR
    have hb2 := hb.set 1 (.int .i64 ((k : Int) + 1))
    simp only [List.set_cons_succ, List.set_cons_zero] at hb2
    have hk' : ((k : Int) + 1) ≤ 4096 := by omega
    have HR := hid (hmk _ (Keep.set _ ⟨br, 1, none⟩ (.int .i64 ((k : Int) + 1))) hb2).at
    clear hmk hb2
    go_wp2_with fail
    go_ret
    exact ⟨rfl, by rw [tkS, if_pos HT.out]; exact HR.out, (Keep.drewN' _ _ m).trans' (Keep.set _ ⟨br, 1, none⟩ _)⟩
theorem aft_sign {n : Nat} {s : List UInt8} {S : Rz} : aft n (signR s) S = if isS s S then tkS s S else flS n 41 S := by
  cases S with
  | bad x p => rfl
  | ok ts =>
    simp only [aft, signR, must, isS, tkS, flS]
    split <;> rfl
set_option maxHeartbeats 4000000 in
theorem rMust_any (w : World) (br n : Nat) (S : Rz) (hr : ReAt w br n S) (s : List UInt8) :
    Calls Tryz.prog 34 #[.pointer (some ⟨br, 0, none⟩), .string ⟨s.toArray⟩] w fun e w' => e = .returned (.tuple #[]) ∧ ReAt w' br n (aft n (signR s) S) ∧ Keep [br] w w' := by
  cases hs : isS s S with
  | true =>
    have HS := hid hs
    clear hs
    go_enter Tryz.func34, Tryz.ntmps34
    go_wp2_with fail
    refine (rTake_any w br n S hr s).mono ?_
    rintro e w2 ⟨rfl, r2, k2⟩
    rw [HS.out]
    go_wp2_with fail
    go_end0
    exact ⟨rfl, by rw [aft_sign, if_pos HS.out]; exact r2, k2⟩
  | false =>
    have HS := hid hs
    clear hs
    go_enter Tryz.func34, Tryz.ntmps34
    go_wp2_with fail
    refine (rTake_any w br n S hr s).mono ?_
    rintro e w2 ⟨rfl, r2, k2⟩
    rw [HS.out]
    rw [tkS_no HS.out] at r2
    go_wp2_with fail
    refine (rFail_any w2 br n S r2 41 (by decide)).mono ?_
    rintro e w3 ⟨rfl, r3, k3⟩
    go_wp2_with fail
    go_end0
    exact ⟨rfl, by rw [aft_sign, if_neg (by rw [HS.out]; decide)]; exact r3, k2.trans' k3⟩
set_option maxHeartbeats 4000000 in
theorem rDeep_ok (w : World) (br d : Nat) (hd : d ≤ 32) :
    Calls Tryz.prog 67 #[.pointer (some ⟨br, 0, none⟩), .int .i64 d] w fun e w' => e = .returned (.tuple #[]) ∧ w = w' := by
  have h : ¬ (32 : Int) < d := by omega
  go_enter Tryz.func67, Tryz.ntmps67
  go_wp2_with fail
  go_end0
  exact ⟨rfl, rfl⟩
set_option maxHeartbeats 4000000 in
theorem rDeep_no (w : World) (br n d : Nat) (S : Rz) (hr : ReAt w br n S) (hd : 32 < d) :
    Calls Tryz.prog 67 #[.pointer (some ⟨br, 0, none⟩), .int .i64 d] w fun e w' => e = .returned (.tuple #[]) ∧ ReAt w' br n (flS n 42 S) ∧ Keep [br] w w' := by
  have h : (32 : Int) < d := by omega
  go_enter Tryz.func67, Tryz.ntmps67
  go_wp2_with fail
  refine (rFail_any w br n S hr 42 (by decide)).mono ?_
  rintro e w3 ⟨rfl, r3, k3⟩
  go_wp2_with fail
  go_end0
  exact ⟨rfl, r3, k3⟩
end Go.Proofs.YtaehlakefgnfmaaGreatDoor
/-
  DERIVED. THE WALK of the document's reader's kind, asked for a name; what a reading's contract says.
-/
namespace Go.Proofs.YtaehlakefgnfmaaGreatDoor
set_option linter.unusedSimpArgs false
set_option linter.unusedVariables false
set_option maxRecDepth 100000
open Go.RowKit

theorem giv_name {ts : List Tok} {nm : List UInt8} (h : Giv nameR (.ok ts) nm) : isName ts = true ∧ nm = headText ts := by
  obtain ⟨r, h⟩ := giv_ok h
  unfold nameR name at h
  split at h
  · rename_i hn
    cases h
    exact ⟨hn, rfl⟩
  · cases h
set_option maxHeartbeats 8000000 in
theorem rName_any (w : World) (br n : Nat) (S : Rz) (hr : ReAt w br n S) :
    Calls Tryz.prog 35 #[.pointer (some ⟨br, 0, none⟩), .int .i64 1] w fun e w' => (∃ (a : Nat) (b : List UInt8) (c d : Nat), e = .returned (.agg #[.int .i64 a, .string ⟨b.toArray⟩, .int .i64 c, .int .i64 d]) ∧ ∀ nm, Giv nameR S nm → b = nm) ∧ ReAt w' br n (aft n nameR S) ∧ Keep [br] w w' := by
  cases S with
  | bad x p =>
    obtain ⟨hx, r, hr'⟩ := hr.rawBad
    have hlt := hr'.lt
    obtain ⟨a, len, cap, k, h1, h2, h3, hb, _⟩ := hr'.blk
    have hb' := hb.alloc (.cells #[.int .i64 0, .string ⟨#[]⟩, .int .i64 0, .int .i64 0] 63)
    obtain ⟨c0, c1, c2, c3, c4, cf⟩ := hb'.fiveR
    have hx0 : ((x : Int) != 0) = true := by simp; omega
    go_enter Tryz.func35, Tryz.ntmps35
    go_wp2_with fail
    go_quiet (fail)
    go_wp2_with fail
    refine (rFail_any _ br n (.bad x p) ((hr.ext ((Ext.refl _).alloc _)).drewN _) 41 (by decide)).mono ?_
    rintro e w3 ⟨rfl, r3, k3⟩
    have b3 := ((Blk.new w 63 [.int .i64 0, .string ⟨#[]⟩, .int .i64 0, .int .i64 0]).drewN _).keep k3 (by simp; omega)
    obtain ⟨e0, e1, e2, e3, ef⟩ := b3.four
    have bF := b3.put4 (.int .i64 0) (.string ⟨#[]⟩) (.int .i64 0) (.int .i64 0)
    have kF := Keep.put4 w3 w.heap.size (.int .i64 0) (.string ⟨#[]⟩) (.int .i64 0) (.int .i64 0)
    have K3 : Keep [br] w w3 := (((Keep.refl _ _).alloc _).trans' (Keep.drewN' _ _ _)).trans' k3
    have rF := r3.keep kF (by simp; omega)
    have KF := K3.trans kF (by simp)
    obtain ⟨x0, x1, x2, x3, _⟩ := bF.four
    clear c0 c1 c2 c3 c4 cf
    go_wp2_with fail
    refine bodyPost_ret (v := .agg #[.int .i64 0, .string ⟨#[]⟩, .int .i64 0, .int .i64 0]) (by simp [results, Tryz.results35, go_sem, x0, x1, x2, x3]) rfl ⟨⟨0, [], 0, 0, rfl, fun nm h => (giv_bad h).elim⟩, rF, KF⟩
  | ok ts =>
    obtain ⟨to, hr'⟩ := hr.raw
    have hlt := hr'.lt
    cases ts with
    | nil =>
      obtain ⟨a, len, cap, h1, h2, hb⟩ := hr'.nil
      have hb' := hb.alloc (.cells #[.int .i64 0, .string ⟨#[]⟩, .int .i64 0, .int .i64 0] 63)
      obtain ⟨c0, c1, c2, c3, c4, cf⟩ := hb'.fiveR
      go_enter Tryz.func35, Tryz.ntmps35
      go_wp2_with fail
      go_quiet (fail)
      go_wp2_with fail
      refine (rFail_any _ br n (.ok []) ((hr.ext ((Ext.refl _).alloc _)).drewN _) 41 (by decide)).mono ?_
      rintro e w3 ⟨rfl, r3, k3⟩
      have b3 := ((Blk.new w 63 [.int .i64 0, .string ⟨#[]⟩, .int .i64 0, .int .i64 0]).drewN _).keep k3 (by simp; omega)
      obtain ⟨e0, e1, e2, e3, ef⟩ := b3.four
      have bF := b3.put4 (.int .i64 0) (.string ⟨#[]⟩) (.int .i64 0) (.int .i64 0)
      have kF := Keep.put4 w3 w.heap.size (.int .i64 0) (.string ⟨#[]⟩) (.int .i64 0) (.int .i64 0)
      have K3 : Keep [br] w w3 := (((Keep.refl _ _).alloc _).trans' (Keep.drewN' _ _ _)).trans' k3
      have rF := r3.keep kF (by simp; omega)
      have KF := K3.trans kF (by simp)
      obtain ⟨x0, x1, x2, x3, _⟩ := bF.four
      clear c0 c1 c2 c3 c4 cf
      go_wp2_with fail
      refine bodyPost_ret (v := .agg #[.int .i64 0, .string ⟨#[]⟩, .int .i64 0, .int .i64 0]) (by simp [results, Tryz.results35, go_sem, x0, x1, x2, x3]) rfl ⟨⟨0, [], 0, 0, rfl, fun nm h => absurd (giv_name h).1 (by decide)⟩, rF, KF⟩
    | cons t r =>
      by_cases hk : t.kind = 1
      · have hr0 := hr'
        have hr1 := hr'.keep (Keep.ofExt ((Ext.refl w).alloc (.cells #[.int .i64 0, .string ⟨#[]⟩, .int .i64 0, .int .i64 0] 63)) : Keep [] _ _) (by simp)
        obtain ⟨b, off, len, cap, k, h1, h2, h3, _, h5, hb, d0, d1, d2, d3, hmk, _⟩ := hr1.cons
        obtain ⟨c0, c1, c2, c3, c4, cf⟩ := hb.fiveR
        have hki : ((t.kind : Int) != 1) = false := by rw [hk]; rfl
        have hd : decide ((len : Int) ≤ (k : Int)) = false := by simp; omega
        have hk' : ((k : Int) + 1) ≤ 4096 := by omega
        have hbw : b < w.heap.size := by omega
        go_enter Tryz.func35, Tryz.ntmps35
        go_wp2_with fail
        go_quiet (fail)
        have hb2 := (hb.drewN nq).set 1 (.int .i64 ((k : Int) + 1))
        simp only [List.set_cons_succ, List.set_cons_zero] at hb2
        have kk := (Keep.drewN' [br] (w.alloc (.cells #[.int .i64 0, .string ⟨#[]⟩, .int .i64 0, .int .i64 0] 63)) nq).trans' (Keep.set _ ⟨br, 1, none⟩ (.int .i64 ((k : Int) + 1)))
        have HR := hid (hmk _ kk hb2)
        have hnb : b ∉ [br] := by simp; omega
        have y0 := kk.cellV hnb d0
        have y1 := kk.cellV hnb d1
        have y2 := kk.cellV hnb d2
        have y3 := kk.cellV hnb d3
        have b3 := ((Blk.new w 63 [.int .i64 0, .string ⟨#[]⟩, .int .i64 0, .int .i64 0]).keep kk (by simp; omega))
        obtain ⟨z0, z1, z2, z3, z4, zf⟩ := hb2.fiveR
        obtain ⟨e0, e1, e2, e3, ef⟩ := b3.four
        clear hmk
        go_wp2_with fail
        clear c0 c1 c2 c3 c4 cf d0 d1 d2 d3
        have bF := (b3.put4 (.int .i64 1) (.string ⟨t.text.toArray⟩) (.int .i64 t.num) (.int .i64 t.place)).drew
        have kF := (Keep.put4 (((w.alloc (.cells #[.int .i64 0, .string ⟨#[]⟩, .int .i64 0, .int .i64 0] 63)).drewN nq).setCell ⟨br, 1, none⟩ (.int .i64 ((k : Int) + 1))) w.heap.size (.int .i64 1) (.string ⟨t.text.toArray⟩) (.int .i64 t.num) (.int .i64 t.place)).drew
        have rF := HR.out.at.keep kF (fun q hq => by simp only [List.mem_singleton] at hq; omega)
        have KF := (((Keep.refl [br] w).alloc _).trans' kk).trans kF (by simp)
        obtain ⟨x0, x1, x2, x3, _⟩ := bF.four
        go_region
        all_goals go_wp2_with fail
        all_goals refine bodyPost_ret (v := .agg #[.int .i64 1, .string ⟨t.text.toArray⟩, .int .i64 t.num, .int .i64 t.place]) (by simp [results, Tryz.results35, go_sem, x0, x1, x2, x3]) rfl ⟨⟨1, t.text, t.num, t.place, rfl, fun nm h => ((giv_name h).2).symm⟩, by simpa [aft, nameR, name, isName, hk, toS] using rF, KF⟩
      · have hr1 := hr'.keep (Keep.ofExt ((Ext.refl w).alloc (.cells #[.int .i64 0, .string ⟨#[]⟩, .int .i64 0, .int .i64 0] 63)) : Keep [] _ _) (by simp)
        obtain ⟨b, off, len, cap, k, h1, h2, h3, _, h5, hb, d0, d1, d2, d3, hmk, _⟩ := hr1.cons
        obtain ⟨c0, c1, c2, c3, c4, cf⟩ := hb.fiveR
        have hki : ((t.kind : Int) != 1) = true := by simp; omega
        have hd : decide ((len : Int) ≤ (k : Int)) = false := by simp; omega
        clear hmk
        go_enter Tryz.func35, Tryz.ntmps35
        go_wp2_with fail
        go_quiet (fail)
        go_wp2_with fail
        refine (rFail_any _ br n (.ok (t :: r)) ((hr.ext ((Ext.refl _).alloc _)).drewN _) 41 (by decide)).mono ?_
        rintro e w3 ⟨rfl, r3, k3⟩
        have b3 := ((Blk.new w 63 [.int .i64 0, .string ⟨#[]⟩, .int .i64 0, .int .i64 0]).drewN _).keep k3 (by simp; omega)
        obtain ⟨e0, e1, e2, e3, ef⟩ := b3.four
        have bF := b3.put4 (.int .i64 0) (.string ⟨#[]⟩) (.int .i64 0) (.int .i64 0)
        have kF := Keep.put4 w3 w.heap.size (.int .i64 0) (.string ⟨#[]⟩) (.int .i64 0) (.int .i64 0)
        have K3 : Keep [br] w w3 := (((Keep.refl _ _).alloc _).trans' (Keep.drewN' _ _ _)).trans' k3
        have rF := r3.keep kF (by simp; omega)
        have KF := K3.trans kF (by simp)
        obtain ⟨x0, x1, x2, x3, _⟩ := bF.four
        clear c0 c1 c2 c3 c4 cf
        go_wp2_with fail
        refine bodyPost_ret (v := .agg #[.int .i64 0, .string ⟨#[]⟩, .int .i64 0, .int .i64 0]) (by simp [results, Tryz.results35, go_sem, x0, x1, x2, x3]) rfl ⟨⟨0, [], 0, 0, rfl, fun nm h => absurd (giv_name h).1 (by simpa [isName] using hk)⟩, (by simpa [aft, nameR, name, isName, hk, toS, flS] using rF), KF⟩
end Go.Proofs.YtaehlakefgnfmaaGreatDoor
/-
  DERIVED. WHAT A READING's CONTRACT SAYS; the walks of the document's reader's expr, inner.
-/
namespace Go.Proofs.YtaehlakefgnfmaaGreatDoor
set_option linter.unusedSimpArgs false
set_option linter.unusedVariables false
set_option maxRecDepth 100000
open Go.RowKit

/-- Five cells as an expression has them. -/
def exForm (vs : List Value) : Prop := ∃ (op num : Nat) (text : List UInt8) (ka : Option Addr) (kn kc at_ : Nat), vs = [.int .i64 op, .int .i64 num, .string ⟨text.toArray⟩, .slice ka kn kc, .int .i64 at_]
/-- What a function that reads an expression leaves. -/
def ExPost (w : World) (br n : Nat) (S : Rz) (P : Rd Ex) (e : Ending) (w' : World) : Prop :=
  (∃ vs, e = .returned (.agg vs.toArray) ∧ exForm vs ∧ ∀ x, Giv P S x → ExIs w' (w.heap.size ≤ ·) x vs) ∧ ReAt w' br n (aft n P S) ∧ Keep [br] w w'
/-- A function reads an expression, so deep; in states of a kind. -/
def ExC (A : Rz → Prop) (f : FuncId) (d : Int) (P : Rd Ex) : Prop := ∀ (w : World) (br n : Nat) (S : Rz), A S → ReAt w br n S → Calls Tryz.prog f #[.pointer (some ⟨br, 0, none⟩), .int .i64 d] w (ExPost w br n S P)
def LvC (A : Rz → Prop) (m : Nat) (d : Int) (P : Rd Ex) : Prop := ∀ (w : World) (br n : Nat) (S : Rz), A S → ReAt w br n S → Calls Tryz.prog 92 #[.pointer (some ⟨br, 0, none⟩), .int .i64 m, .int .i64 d] w (ExPost w br n S P)
def Any (_ : Rz) : Prop := True
def Bad : Rz → Prop
  | .ok _ => False
  | .bad _ _ => True
/-- A kind of states that a reading doesn't leave. -/
structure Shut (A : Rz → Prop) : Prop where
  aft : ∀ {α : Type} (n : Nat) (P : Rd α) (S : Rz), A S → A (aft n P S)
  tk : ∀ (s : List UInt8) (S : Rz), A S → A (tkS s S)
  fl : ∀ (n x : Nat) (S : Rz), A S → A (flS n x S)
theorem Shut.any : Shut Any := ⟨fun _ _ _ _ => trivial, fun _ _ _ => trivial, fun _ _ _ _ => trivial⟩
theorem Shut.bad : Shut Bad := ⟨fun _ _ S h => by cases S with | ok ts => cases h | bad x p => exact trivial, fun _ S h => by cases S with | ok ts => cases h | bad x p => exact trivial, fun _ _ S h => by cases S with | ok ts => cases h | bad x p => exact trivial⟩
/-- The cells of nothing. -/
def ex0 : List Value := [.int .i64 0, .int .i64 0, .string ⟨#[]⟩, .slice none 0 0, .int .i64 0]
theorem ExIs.keep {w w' : World} {F : Nat → Prop} {x : Ex} {vs : List Value} {T : List Nat} (h : ExIs w F x vs) (k : Keep T w w') (hT : ∀ b ∈ T, b < w.heap.size → ¬ F b) (G : Nat → Prop) (hG : ∀ b, F b → G b) : ExIs w' G x vs :=
  ExIs.carry (Carry.keep k hT fun b _ hf => hG b hf) _ _ h
/-- A reading that isn't too deep. -/
def dpR (d : Nat) (P : Rd Ex) : Rd Ex := fun ts => if d ≤ 32 then P ts else .err 42 ts
theorem aft_deep {n d : Nat} {S : Rz} {P : Rd Ex} : aft n (dpR d P) S = if d ≤ 32 then aft n P S else flS n 42 S := by
  cases S with
  | bad x p => simp [aft, flS, dpR]
  | ok ts => simp only [aft, flS, dpR]; split <;> simp_all [toS]
set_option maxHeartbeats 4000000 in
theorem rExpr_of {A : Rz → Prop} (hA : Shut A) (d : Nat) (hd : d ≤ 33) (P : Rd Ex) (hL : d ≤ 32 → LvC A 0 d P) (Pb : Rd Ex) (hB : LvC Bad 0 d Pb) : ExC A 83 d (dpR d P) := by
  intro w br n S hS hr
  have hlt := hr.lt
  by_cases h32 : d ≤ 32
  · have HL := hid (hL h32)
    clear hL hB
    go_enter Tryz.func83, Tryz.ntmps83
    go_wp2_with fail
    refine (rDeep_ok _ br d h32).mono ?_
    rintro e w1 ⟨rfl, rfl⟩
    go_wp2_with fail
    refine (HL.out _ br n S hS (hr.ext ((Ext.refl _).alloc _))).mono ?_
    rintro e w2 ⟨⟨vs, rfl, ⟨op, num, text, ka, kn, kc, at_, rfl⟩, hx⟩, r2, k2⟩
    have b2 := (Blk.new w 100 ex0).keep k2 (by simp; omega)
    unfold ex0 at b2
    obtain ⟨e0, e1, e2, e3, e4, ef⟩ := b2.fiveR
    have bF := b2.put5 (.int .i64 op) (.int .i64 num) (.string ⟨text.toArray⟩) (.slice ka kn kc) (.int .i64 at_)
    have kF := Keep.put5 w2 w.heap.size (.int .i64 op) (.int .i64 num) (.string ⟨text.toArray⟩) (.slice ka kn kc) (.int .i64 at_)
    obtain ⟨x0, x1, x2, x3, x4, _⟩ := bF.fiveR
    have K := ((Keep.refl [br] w).alloc (.cells ex0.toArray 100)).trans' k2
    have HX := hid hx
    clear hx
    go_wp2_with fail
    refine bodyPost_ret (v := .agg #[.int .i64 op, .int .i64 num, .string ⟨text.toArray⟩, .slice ka kn kc, .int .i64 at_]) (by simp [results, Tryz.results83, go_sem, x0, x1, x2, x3, x4]) rfl ⟨⟨_, rfl, ⟨op, num, text, ka, kn, kc, at_, rfl⟩, fun x hg => ?_⟩, ?_, K.trans kF (by simp)⟩
    · have hg' : Giv P S x := by
        obtain ⟨ts, r, h1, h2⟩ := hg
        exact ⟨ts, r, h1, by simpa [dpR, h32] using h2⟩
      exact (HX.out x hg').keep kF (by simp) _ (fun b hb => by simp only [World.size_alloc] at hb; omega)
    · rw [aft_deep, if_pos h32]
      exact r2.keep kF (by simp; omega)
  · have HB := hid hB
    clear hL hB
    go_enter Tryz.func83, Tryz.ntmps83
    go_wp2_with fail
    refine (rDeep_no _ br n d S (hr.ext ((Ext.refl _).alloc _)) (by omega)).mono ?_
    rintro e w1 ⟨rfl, r1, k1⟩
    go_wp2_with fail
    have hb1 : Bad (flS n 42 S) := by cases S <;> trivial
    refine (HB.out _ br n _ hb1 r1).mono ?_
    rintro e w2 ⟨⟨vs, rfl, ⟨op, num, text, ka, kn, kc, at_, rfl⟩, hx⟩, r2, k2'⟩
    have k2 := k1.trans' k2'
    have b2 := (Blk.new w 100 ex0).keep k2 (by simp; omega)
    unfold ex0 at b2
    obtain ⟨e0, e1, e2, e3, e4, ef⟩ := b2.fiveR
    have bF := b2.put5 (.int .i64 op) (.int .i64 num) (.string ⟨text.toArray⟩) (.slice ka kn kc) (.int .i64 at_)
    have kF := Keep.put5 w2 w.heap.size (.int .i64 op) (.int .i64 num) (.string ⟨text.toArray⟩) (.slice ka kn kc) (.int .i64 at_)
    obtain ⟨x0, x1, x2, x3, x4, _⟩ := bF.fiveR
    have K := ((Keep.refl [br] w).alloc (.cells ex0.toArray 100)).trans' k2
    clear hx
    go_wp2_with fail
    refine bodyPost_ret (v := .agg #[.int .i64 op, .int .i64 num, .string ⟨text.toArray⟩, .slice ka kn kc, .int .i64 at_]) (by simp [results, Tryz.results83, go_sem, x0, x1, x2, x3, x4]) rfl ⟨⟨_, rfl, ⟨op, num, text, ka, kn, kc, at_, rfl⟩, fun x hg => ?_⟩, ?_, K.trans kF (by simp)⟩
    · obtain ⟨ts, r, h1, h2⟩ := hg
      simp only [dpR, h32, if_false] at h2
      cases h2
    · rw [aft_deep, if_neg h32]
      have : aft n Pb (flS n 42 S) = flS n 42 S := by cases S <;> rfl
      rw [this] at r2
      exact r2.keep kF (by simp; omega)
theorem inner_sq (e : Rd Ex) : innerS e = sqR (signR [40]) (fun _ => sqR e (fun x => sqR (signR [41]) (fun _ => retR x))) := by
  funext ts
  simp only [innerS, must_sq]
  rfl
theorem aft_inner {n : Nat} {e : Rd Ex} {S : Rz} : aft n (innerS e) S = aft n (signR [41]) (aft n e (aft n (signR [40]) S)) := by
  rw [inner_sq]
  refine aft_sq (F := fun S => aft n (signR [41]) (aft n e S)) (fun _ S => aft_sq (F := fun S => aft n (signR [41]) S) (fun x S => ?_) (fun _ _ => rfl)) (fun _ _ => rfl)
  exact aft_sq (F := id) (fun _ S => aft_ret _ _ _) (fun _ _ => rfl)
theorem giv_inner (n : Nat) {e : Rd Ex} {S : Rz} {x : Ex} (h : Giv (innerS e) S x) : Giv e (aft n (signR [40]) S) x := by
  rw [inner_sq] at h
  obtain ⟨_, _, h⟩ := giv_sq n h
  obtain ⟨y, h1, h⟩ := giv_sq n h
  obtain ⟨_, _, h⟩ := giv_sq n h
  obtain rfl := giv_ret h
  exact h1
set_option maxHeartbeats 4000000 in
theorem rInner_of {A : Rz → Prop} (hA : Shut A) (d : Nat) (hd : d ≤ 33) (E : Rd Ex) (hE : ExC A 83 ((d : Int) + 1) E) : ExC A 113 d (innerS E) := by
  intro w br n S hS hr
  have hlt := hr.lt
  have HE := hid hE
  clear hE
  go_enter Tryz.func113, Tryz.ntmps113
  go_wp2_with fail
  refine (rMust_any _ br n S (hr.ext ((Ext.refl _).alloc _)) [40]).mono ?_
  rintro e w1 ⟨rfl, r1, k1⟩
  go_wp2_with fail
  refine (HE.out _ br n _ (hA.aft n _ S hS) r1).mono ?_
  rintro e w2 ⟨⟨vs, rfl, ⟨op, num, text, ka, kn, kc, at_, rfl⟩, hx⟩, r2, k2⟩
  have HX := hid hx
  clear hx
  have K02 := ((Keep.refl [br] w).alloc (.cells ex0.toArray 100)).trans' (k1.trans' k2)
  have b2 := (Blk.new w 100 ex0).keep (k1.trans' k2) (by simp; omega)
  have lb2 := b2.lt
  have b5 := Blk.new w2 100 [.int .i64 op, .int .i64 num, .string ⟨text.toArray⟩, .slice ka kn kc, .int .i64 at_]
  have hsz := K02.size
  go_wp2_with fail
  refine (rMust_any _ br n _ (r2.ext ((Ext.refl _).alloc _)) [41]).mono ?_
  rintro e w3 ⟨rfl, r3, k3⟩
  have bR := (b2.alloc _).keep k3 (by simp; omega)
  have b53 := b5.keep k3 (by simp; omega)
  unfold ex0 at bR
  obtain ⟨e0, e1, e2, e3, e4, ef⟩ := bR.fiveR
  obtain ⟨y0, y1, y2, y3, y4, yf⟩ := b53.fiveR
  have bF := bR.put5 (.int .i64 op) (.int .i64 num) (.string ⟨text.toArray⟩) (.slice ka kn kc) (.int .i64 at_)
  have kF := Keep.put5 w3 w.heap.size (.int .i64 op) (.int .i64 num) (.string ⟨text.toArray⟩) (.slice ka kn kc) (.int .i64 at_)
  obtain ⟨x0, x1, x2, x3, x4, _⟩ := bF.fiveR
  have K03 := (K02.alloc (.cells #[.int .i64 op, .int .i64 num, .string ⟨text.toArray⟩, .slice ka kn kc, .int .i64 at_] 100)).trans' k3
  have l3 := bR.lt
  have l1 := k1.size
  simp only [World.size_alloc] at l1
  go_wp2_with fail
  refine bodyPost_ret (v := .agg #[.int .i64 op, .int .i64 num, .string ⟨text.toArray⟩, .slice ka kn kc, .int .i64 at_]) (by simp [results, Tryz.results113, go_sem, x0, x1, x2, x3, x4]) rfl ⟨⟨_, rfl, ⟨op, num, text, ka, kn, kc, at_, rfl⟩, fun x hg => ?_⟩, ?_, K03.trans kF (by simp)⟩
  · refine (((HX.out x (giv_inner n hg)).keep (Keep.ofExt ((Ext.refl _).alloc _) : Keep [] _ _) (by simp) (w.heap.size < ·) (fun b hb => by have hb' : w1.heap.size ≤ b := hb; omega)).keep k3 (by simp; omega) (w.heap.size < ·) (fun b hb => hb)).keep kF (by simp) _ (fun b hb => Nat.le_of_lt hb)
  · rw [aft_inner]
    exact r3.keep kF (by simp; omega)
end Go.Proofs.YtaehlakefgnfmaaGreatDoor
