/-
  DERIVED. What a call keeps: all blocks but some; a reader of tokens in memory; trees in memory.
-/
import Derived.Test.YtaehlakefgnfmaaGreatDoorTokf
import Derived.Test.YtaehlakefgnfmaaGreatDoorSyn
namespace Go.Proofs.YtaehlakefgnfmaaGreatDoor
set_option linter.unusedSimpArgs false
set_option linter.unusedVariables false
open Go.RowKit

/-- All blocks of w but those of S are in w' as they were. -/
structure Keep (S : List Nat) (w w' : World) : Prop where
  os : w'.os = w.os
  tape : w'.tape = w.tape
  output : w'.output = w.output
  size : w.heap.size ≤ w'.heap.size
  block : ∀ k, k < w.heap.size → k ∉ S → w'.heap[k]? = w.heap[k]?

theorem Keep.refl (S : List Nat) (w : World) : Keep S w w := ⟨rfl, rfl, rfl, Nat.le_refl _, fun _ _ _ => rfl⟩
theorem Keep.trans {S T : List Nat} {a b c : World} (h : Keep S a b) (k : Keep T b c) (hT : ∀ x ∈ T, x ∈ S ∨ a.heap.size ≤ x) : Keep S a c :=
  ⟨k.os.trans h.os, k.tape.trans h.tape, k.output.trans h.output, Nat.le_trans h.size k.size, fun i hi hn =>
    (k.block i (Nat.lt_of_lt_of_le hi h.size) (fun hx => by rcases hT i hx with h1 | h1; exact hn h1; omega)).trans (h.block i hi hn)⟩
theorem Keep.trans' {S : List Nat} {a b c : World} (h : Keep S a b) (k : Keep S b c) : Keep S a c := h.trans k fun _ hx => .inl hx
theorem Keep.mono {S T : List Nat} {a b : World} (h : Keep S a b) (hs : ∀ x ∈ S, x ∈ T ∨ a.heap.size ≤ x) : Keep T a b :=
  ⟨h.os, h.tape, h.output, h.size, fun i hi hn => h.block i hi fun hx => by rcases hs i hx with h1 | h1; exact hn h1; omega⟩
theorem Keep.ofExt {S : List Nat} {a b : World} (h : Ext a b) : Keep S a b := ⟨h.os, h.tape, h.output, Below.size h, fun k hk _ => Below.block h k hk⟩
theorem Keep.ext {a b : World} (h : Keep [] a b) : Ext a b := ⟨h.os, h.tape, h.output, h.size, fun k hk => h.block k hk (by simp)⟩
theorem Keep.below {S : List Nat} {a w w' : World} (h : Keep S w w') (e : Ext a w) (hS : ∀ x ∈ S, a.heap.size ≤ x) : Ext a w' :=
  Below.trans e ⟨h.os, h.tape, h.output, h.size, fun k hk => h.block k (Nat.lt_of_lt_of_le hk (Below.size e)) fun hx => by have := hS k hx; omega⟩
theorem Keep.alloc {S : List Nat} {a w : World} (h : Keep S a w) (o : Obj) : Keep S a (w.alloc o) := h.trans' (.ofExt ((Ext.refl _).alloc o))
theorem Keep.drew {S : List Nat} {a w : World} (h : Keep S a w) : Keep S a w.drew := h.trans' (.ofExt (Ext.refl w).drew)
theorem Keep.drewN {S : List Nat} {a w : World} (h : Keep S a w) (n : Nat) : Keep S a (w.drewN n) := ⟨h.os, h.tape, h.output, h.size, h.block⟩
theorem Keep.set (w : World) (p : Addr) (u : Value) : Keep [p.block] w (w.setCell p u) :=
  ⟨rfl, rfl, rfl, by simp [World.setCell], fun k hk hn => Below.heap_setCell _ _ _ _ (by simpa using hn)⟩
theorem Keep.setCell {S : List Nat} {a w : World} (h : Keep S a w) {p : Addr} (hp : p.block ∈ S ∨ a.heap.size ≤ p.block) (u : Value) : Keep S a (w.setCell p u) :=
  h.trans (Keep.set w p u) (by simpa using hp)
theorem Keep.grownBy {w w' : World} {row : Option Nat} (g : w.grownBy w' row) (S : List Nat) (hr : ∀ k, row = some k → k ∈ S) : Keep S w w' :=
  ⟨g.os, g.tape, g.output, g.size, fun k hk hn => g.block k hk fun e => hn (hr k e.symm)⟩
theorem Keep.grown {S : List Nat} {a w w' : World} {row : Option Nat} (h : Keep S a w) (g : w.grownBy w' row) (hr : ∀ k, row = some k → k ∈ S ∨ a.heap.size ≤ k) : Keep S a w' :=
  ⟨g.os.trans h.os, g.tape.trans h.tape, g.output.trans h.output, Nat.le_trans h.size g.size, fun k hk hn =>
    (g.block k (Nat.lt_of_lt_of_le hk h.size) (fun e => by rcases hr k e.symm with h1 | h1; exact hn h1; omega)).trans (h.block k hk hn)⟩
theorem Keep.cell {S : List Nat} {w w' : World} (h : Keep S w w') {b i : Nat} (hb : b < w.heap.size) (hn : b ∉ S) : w'.cell? ⟨b, i, none⟩ = w.cell? ⟨b, i, none⟩ :=
  World.cell?_of_block (w := w) (h.block b hb hn)
theorem Keep.cellV {S : List Nat} {w w' : World} (h : Keep S w w') {b i : Nat} {v : Value} (hn : b ∉ S) (hc : w.cell? ⟨b, i, none⟩ = some v) : w'.cell? ⟨b, i, none⟩ = some v := by
  rw [h.cell (World.block_lt_of_cell? _ _ hc) hn, hc]
theorem Blk.keep {S : List Nat} {w w' : World} {b : Nat} {t : TypeId} {vs : List Value} (h : Blk w b t vs) (k : Keep S w w') (hn : b ∉ S) : Blk w' b t vs := by
  have := k.block b h.lt hn
  unfold Blk at *
  rw [this, h]

/-- From a on lie the cells vs, in a block of F. -/
def CellsIn (w : World) (F : Nat → Prop) (a : Option Addr) (vs : List Value) : Prop :=
  ∀ i v, vs[i]? = some v → ∃ b off, a = some ⟨b, off, none⟩ ∧ F b ∧ w.cell? ⟨b, off + i, none⟩ = some v
theorem CellsIn.nil (w : World) (F : Nat → Prop) (a : Option Addr) : CellsIn w F a [] := by intro i v h; simp at h
theorem CellsIn.at {w : World} {F : Nat → Prop} {a : Option Addr} {vs : List Value} (h : CellsIn w F a vs) : CellsAt w a vs := by
  intro i v hv
  obtain ⟨b, off, h1, _, h2⟩ := h i v hv
  exact ⟨b, off, h1, h2⟩
theorem CellsIn.mono {w : World} {F G : Nat → Prop} {a : Option Addr} {vs : List Value} (h : CellsIn w F a vs) (hg : ∀ b, b < w.heap.size → F b → G b) : CellsIn w G a vs := by
  intro i v hv
  obtain ⟨b, off, h1, hf, h2⟩ := h i v hv
  exact ⟨b, off, h1, hg b (World.block_lt_of_cell? _ _ h2) hf, h2⟩
theorem CellsIn.keep {w w' : World} {F : Nat → Prop} {a : Option Addr} {vs : List Value} {S : List Nat} (h : CellsIn w F a vs) (k : Keep S w w') (hn : ∀ b ∈ S, b < w.heap.size → ¬ F b) : CellsIn w' F a vs := by
  intro i v hv
  obtain ⟨b, off, h1, hf, h2⟩ := h i v hv
  exact ⟨b, off, h1, hf, k.cellV (fun hb => hn b hb (World.block_lt_of_cell? _ _ h2) hf) h2⟩

/-- A reader: its tokens (in an older block), how long the text is. -/
def RdAt (w : World) (br n : Nat) (ts : List Tok) : Prop :=
  ∃ a cap, Blk w br 46 [.slice a ts.length cap, .int .i64 n] ∧ CellsIn w (· < br) a (ts.flatMap encTok) ∧ ts.length ≤ cap ∧ cap ≤ 9223372036854775807 ∧ ts.length ≤ 2048
theorem RdAt.keep {w w' : World} {br n : Nat} {ts : List Tok} {S : List Nat} (h : RdAt w br n ts) (k : Keep S w w') (hS : ∀ b ∈ S, br < b ∨ w.heap.size ≤ b) : RdAt w' br n ts := by
  obtain ⟨a, cap, h1, h2, h3, h4⟩ := h
  have := h1.lt
  refine ⟨a, cap, h1.keep k (fun hb => ?_), h2.keep k (fun b hb hl => ?_), h3, h4⟩
  · have := hS br hb; omega
  · have := hS b hb; omega
theorem RdAt.ext {w w' : World} {br n : Nat} {ts : List Tok} (h : RdAt w br n ts) (e : Ext w w') : RdAt w' br n ts := h.keep (S := []) (.ofExt e) (by simp)
theorem RdAt.len {w : World} {br n : Nat} {ts : List Tok} (h : RdAt w br n ts) : ts.length ≤ 2048 := by
  obtain ⟨a, cap, _, _, _, _, h5⟩ := h
  exact h5
theorem RdAt.lt {w : World} {br n : Nat} {ts : List Tok} (h : RdAt w br n ts) : br < w.heap.size := by
  obtain ⟨a, cap, h1, _⟩ := h
  exact h1.lt

/-- A slice of n things whose cells are told by Q. -/
def RowIs (w : World) (F : Nat → Prop) (v : Value) (n : Nat) (Q : List Value → Prop) : Prop := ∃ a cap ks, v = .slice a n cap ∧ n ≤ cap ∧ CellsIn w F a ks ∧ Q ks
mutual
def ExIs (w : World) (F : Nat → Prop) : Ex → List Value → Prop
  | .mk op num text kids at_, vs => ∃ v, vs = [.int .i64 op, .int .i64 num, .string ⟨text.toArray⟩, v, .int .i64 at_] ∧ RowIs w F v kids.length (fun ks => ExsIs w F kids ks)
def ExsIs (w : World) (F : Nat → Prop) : List Ex → List Value → Prop
  | [], vs => vs = []
  | x :: l, vs => ∃ v1 v2, vs = v1 ++ v2 ∧ ExIs w F x v1 ∧ ExsIs w F l v2
end
mutual
def StIs (w : World) (F : Nat → Prop) : St → List Value → Prop
  | .mk op text es b l at_, vs => ∃ ve vb vl, vs = [.int .i64 op, .string ⟨text.toArray⟩, ve, vb, vl, .int .i64 at_] ∧ RowIs w F ve es.length (fun ks => ExsIs w F es ks) ∧ RowIs w F vb b.length (fun ks => StsIs w F b ks) ∧ RowIs w F vl l.length (fun ks => StsIs w F l ks)
def StsIs (w : World) (F : Nat → Prop) : List St → List Value → Prop
  | [], vs => vs = []
  | x :: l, vs => ∃ v1 v2, vs = v1 ++ v2 ∧ StIs w F x v1 ∧ StsIs w F l v2
end
def paCells (p : Pa) : List Value := [.string ⟨p.name.toArray⟩, .int .i64 p.type]
def PasIs (w : World) (F : Nat → Prop) (ps : List Pa) (vs : List Value) : Prop := vs = ps.flatMap paCells
def FuIs (w : World) (F : Nat → Prop) (f : Fu) (vs : List Value) : Prop :=
  ∃ vp vb, vs = [.string ⟨f.name.toArray⟩, vp, .int .i64 f.result, vb, .int .i64 f.at_] ∧ RowIs w F vp f.params.length (PasIs w F f.params) ∧ RowIs w F vb f.body.length (StsIs w F f.body)
def FusIs (w : World) (F : Nat → Prop) : List Fu → List Value → Prop
  | [], vs => vs = []
  | x :: l, vs => ∃ v1 v2, vs = v1 ++ v2 ∧ FuIs w F x v1 ∧ FusIs w F l v2

/-- What was so in w is so in w'. -/
structure Carry (w w' : World) (F G : Nat → Prop) : Prop where
  cell : ∀ b i v, F b → w.cell? ⟨b, i, none⟩ = some v → w'.cell? ⟨b, i, none⟩ = some v
  into : ∀ b, b < w.heap.size → F b → G b
theorem CellsIn.carry {w w' : World} {F G : Nat → Prop} {a : Option Addr} {vs : List Value} (h : CellsIn w F a vs) (c : Carry w w' F G) : CellsIn w' G a vs := by
  intro i v hv
  obtain ⟨b, off, h1, hf, h2⟩ := h i v hv
  exact ⟨b, off, h1, c.into b (World.block_lt_of_cell? _ _ h2) hf, c.cell _ _ _ hf h2⟩
theorem RowIs.carry {w w' : World} {F G : Nat → Prop} {v : Value} {n : Nat} {Q Q' : List Value → Prop} (h : RowIs w F v n Q) (c : Carry w w' F G) (hq : ∀ ks, Q ks → Q' ks) : RowIs w' G v n Q' := by
  obtain ⟨a, cap, ks, h1, h2, h3, h4⟩ := h
  exact ⟨a, cap, ks, h1, h2, h3.carry c, hq ks h4⟩
mutual
theorem ExIs.carry {w w' : World} {F G : Nat → Prop} (c : Carry w w' F G) : ∀ (x : Ex) (vs : List Value), ExIs w F x vs → ExIs w' G x vs
  | .mk op num text kids at_, vs, h => by
    simp only [ExIs] at h ⊢
    obtain ⟨v, h1, h2⟩ := h
    exact ⟨v, h1, h2.carry c fun ks => ExsIs.carry c kids ks⟩
theorem ExsIs.carry {w w' : World} {F G : Nat → Prop} (c : Carry w w' F G) : ∀ (l : List Ex) (vs : List Value), ExsIs w F l vs → ExsIs w' G l vs
  | [], vs, h => by simpa only [ExsIs] using h
  | x :: l, vs, h => by
    simp only [ExsIs] at h ⊢
    obtain ⟨v1, v2, h1, h2, h3⟩ := h
    exact ⟨v1, v2, h1, ExIs.carry c x v1 h2, ExsIs.carry c l v2 h3⟩
end
mutual
theorem StIs.carry {w w' : World} {F G : Nat → Prop} (c : Carry w w' F G) : ∀ (x : St) (vs : List Value), StIs w F x vs → StIs w' G x vs
  | .mk op text es b l at_, vs, h => by
    simp only [StIs] at h ⊢
    obtain ⟨ve, vb, vl, h1, h2, h3, h4⟩ := h
    exact ⟨ve, vb, vl, h1, h2.carry c fun ks => ExsIs.carry c es ks, h3.carry c fun ks => StsIs.carry c b ks, h4.carry c fun ks => StsIs.carry c l ks⟩
theorem StsIs.carry {w w' : World} {F G : Nat → Prop} (c : Carry w w' F G) : ∀ (l : List St) (vs : List Value), StsIs w F l vs → StsIs w' G l vs
  | [], vs, h => by simpa only [StsIs] using h
  | x :: l, vs, h => by
    simp only [StsIs] at h ⊢
    obtain ⟨v1, v2, h1, h2, h3⟩ := h
    exact ⟨v1, v2, h1, StIs.carry c x v1 h2, StsIs.carry c l v2 h3⟩
end
theorem FuIs.carry {w w' : World} {F G : Nat → Prop} (c : Carry w w' F G) (x : Fu) (vs : List Value) (h : FuIs w F x vs) : FuIs w' G x vs := by
  obtain ⟨vp, vb, h1, h2, h3⟩ := h
  exact ⟨vp, vb, h1, h2.carry c fun ks hk => hk, h3.carry c fun ks => StsIs.carry c _ ks⟩
theorem FusIs.carry {w w' : World} {F G : Nat → Prop} (c : Carry w w' F G) : ∀ (l : List Fu) (vs : List Value), FusIs w F l vs → FusIs w' G l vs
  | [], vs, h => by simpa only [FusIs] using h
  | x :: l, vs, h => by
    simp only [FusIs] at h ⊢
    obtain ⟨v1, v2, h1, h2, h3⟩ := h
    exact ⟨v1, v2, h1, FuIs.carry c x v1 h2, FusIs.carry c l v2 h3⟩
theorem Carry.keep {S : List Nat} {w w' : World} {F G : Nat → Prop} (k : Keep S w w') (hn : ∀ b ∈ S, b < w.heap.size → ¬ F b) (hg : ∀ b, b < w.heap.size → F b → G b) : Carry w w' F G :=
  ⟨fun b i v hf hc => k.cellV (fun hb => hn b hb (World.block_lt_of_cell? _ _ hc) hf) hc, hg⟩

/-- The ways in which things lie in cells: of so many cells each, told by Is; carried along. -/
structure Enc (α : Type) where
  size : Nat
  one : World → (Nat → Prop) → α → List Value → Prop
  all : World → (Nat → Prop) → List α → List Value → Prop
  len : ∀ {w F a vs}, one w F a vs → vs.length = size
  carry : ∀ {w w' F G}, Carry w w' F G → ∀ a vs, one w F a vs → one w' G a vs
  carries : ∀ {w w' F G}, Carry w w' F G → ∀ a vs, all w F a vs → all w' G a vs
  nil : ∀ w F, all w F [] []
  snoc : ∀ {w F l vs a us}, all w F l vs → one w F a us → all w F (l ++ [a]) (vs ++ us)
theorem exs_snoc {w : World} {F : Nat → Prop} {a : Ex} {us : List Value} (ha : ExIs w F a us) : ∀ (l : List Ex) (vs : List Value), ExsIs w F l vs → ExsIs w F (l ++ [a]) (vs ++ us)
  | [], vs, h => by
    simp only [ExsIs] at h
    subst h
    simp only [List.nil_append, ExsIs]
    exact ⟨us, [], by simp, ha, rfl⟩
  | x :: l, vs, h => by
    simp only [ExsIs] at h
    obtain ⟨v1, v2, rfl, h2, h3⟩ := h
    simp only [List.cons_append, ExsIs]
    exact ⟨v1, v2 ++ us, by simp, h2, exs_snoc ha l v2 h3⟩
theorem sts_snoc {w : World} {F : Nat → Prop} {a : St} {us : List Value} (ha : StIs w F a us) : ∀ (l : List St) (vs : List Value), StsIs w F l vs → StsIs w F (l ++ [a]) (vs ++ us)
  | [], vs, h => by
    simp only [StsIs] at h
    subst h
    simp only [List.nil_append, StsIs]
    exact ⟨us, [], by simp, ha, rfl⟩
  | x :: l, vs, h => by
    simp only [StsIs] at h
    obtain ⟨v1, v2, rfl, h2, h3⟩ := h
    simp only [List.cons_append, StsIs]
    exact ⟨v1, v2 ++ us, by simp, h2, sts_snoc ha l v2 h3⟩
theorem fus_snoc {w : World} {F : Nat → Prop} {a : Fu} {us : List Value} (ha : FuIs w F a us) : ∀ (l : List Fu) (vs : List Value), FusIs w F l vs → FusIs w F (l ++ [a]) (vs ++ us)
  | [], vs, h => by
    simp only [FusIs] at h
    subst h
    simp only [List.nil_append, FusIs]
    exact ⟨us, [], by simp, ha, rfl⟩
  | x :: l, vs, h => by
    simp only [FusIs] at h
    obtain ⟨v1, v2, rfl, h2, h3⟩ := h
    simp only [List.cons_append, FusIs]
    exact ⟨v1, v2 ++ us, by simp, h2, fus_snoc ha l v2 h3⟩
theorem ex_len {w : World} {F : Nat → Prop} {x : Ex} {vs : List Value} (h : ExIs w F x vs) : vs.length = 5 := by
  cases x
  simp only [ExIs] at h
  obtain ⟨v, rfl, _⟩ := h
  rfl
theorem st_len {w : World} {F : Nat → Prop} {x : St} {vs : List Value} (h : StIs w F x vs) : vs.length = 6 := by
  cases x
  simp only [StIs] at h
  obtain ⟨ve, vb, vl, rfl, _⟩ := h
  rfl
theorem fu_len {w : World} {F : Nat → Prop} {x : Fu} {vs : List Value} (h : FuIs w F x vs) : vs.length = 5 := by
  obtain ⟨vp, vb, rfl, _⟩ := h
  rfl
def exEnc : Enc Ex := ⟨5, ExIs, ExsIs, ex_len, ExIs.carry, ExsIs.carry, fun _ _ => rfl, fun h ha => exs_snoc ha _ _ h⟩
def stEnc : Enc St := ⟨6, StIs, StsIs, st_len, StIs.carry, StsIs.carry, fun _ _ => rfl, fun h ha => sts_snoc ha _ _ h⟩
def fuEnc : Enc Fu := ⟨5, FuIs, FusIs, fu_len, FuIs.carry, FusIs.carry, fun _ _ => rfl, fun h ha => fus_snoc ha _ _ h⟩
def paEnc : Enc Pa := ⟨2, fun _ _ p vs => vs = paCells p, PasIs, fun h => by rw [h]; rfl, fun _ _ _ h => h, fun _ _ _ h => h, fun _ _ => rfl, fun h ha => by
  unfold PasIs at *
  rw [h, ha, List.flatMap_append]; simp⟩

/-- The block that a slice lies in, if it is its own. -/
def ownL (v : Value) : List Nat := v.ownBlock.toList
theorem mem_ownL {v : Value} {k : Nat} : k ∈ ownL v ↔ v.ownBlock = some k := by unfold ownL; simp
/-- A row under way: its own block from base on, its things' blocks from base on and others. -/
def OwnX {α : Type} (E : Enc α) (T : TypeId) (w : World) (base : Nat) (v : Value) (xs : List α) : Prop :=
  ∃ ks, w.ownsRow base T E.size v xs.length ks ∧ E.all w (fun b => base ≤ b ∧ v.ownBlock ≠ some b) xs ks
theorem OwnX.nil {α : Type} (E : Enc α) (T : TypeId) (w : World) (base : Nat) : OwnX E T w base (.slice none 0 0) [] := ⟨[], World.ownsRow_nil _ _ _ _, E.nil _ _⟩
theorem ownsRow_keep {S : List Nat} {w w' : World} {base : Nat} {e : TypeId} {size : Nat} {v : Value} {n : Nat} {xs : List Value} (h : w.ownsRow base e size v n xs) (k : Keep S w w') (hn : ∀ b ∈ S, b < w.heap.size → v.ownBlock ≠ some b) : w'.ownsRow base e size v n xs := by
  obtain ⟨hl, h⟩ := h
  refine ⟨hl, ?_⟩
  rcases h with h | ⟨g, cap, cur, rfl, hb, hg, r⟩
  · exact .inl h
  · have lt : g < w.heap.size := (Array.getElem?_eq_some_iff.1 hg).1
    exact .inr ⟨g, cap, cur, rfl, hb, by rw [k.block g lt fun hs => hn g hs lt rfl]; exact hg, r⟩
/-- It stays while other memory is written. -/
theorem OwnX.keep {α : Type} {E : Enc α} {T : TypeId} {S : List Nat} {w w' : World} {base : Nat} {v : Value} {xs : List α} (h : OwnX E T w base v xs) (k : Keep S w w') (hn : ∀ b ∈ S, b < w.heap.size → b < base) : OwnX E T w' base v xs := by
  obtain ⟨ks, h1, h2⟩ := h
  refine ⟨ks, ownsRow_keep h1 k fun b hb hlt e => ?_, E.carries (Carry.keep k (fun b hb hlt hf => ?_) fun b _ hf => hf) _ _ h2⟩
  · have := hn b hb hlt
    have := (h1.lt b e).1
    omega
  · have := hn b hb hlt
    omega
/-- Done: a slice of things. -/
theorem OwnX.row {α : Type} {E : Enc α} {T : TypeId} {w : World} {base : Nat} {v : Value} {xs : List α} (h : OwnX E T w base v xs) : RowIs w (base ≤ ·) v xs.length (E.all w (base ≤ ·) xs) := by
  obtain ⟨ks, h1, h2⟩ := h
  obtain ⟨a, cap, rfl, hc, hb, hn⟩ := owned_cells h1
  refine ⟨a, cap, ks, rfl, hn, fun i v hv => ?_, E.carries ⟨fun _ _ _ _ h => h, fun b _ hf => hf.1⟩ _ _ h2⟩
  obtain ⟨b, off, e, hcell⟩ := hc i v hv
  exact ⟨b, off, e, hb _ e, hcell⟩
/-- Behind an append of one thing. -/
theorem OwnX.snoc {α : Type} {E : Enc α} {T : TypeId} {w w' : World} {base : Nat} {v v' : Value} {xs : List α} {ks us : List Value} {a : α} (h2 : E.all w (fun b => base ≤ b ∧ v.ownBlock ≠ some b) xs ks)
    (ha : E.one w (fun b => base ≤ b ∧ v.ownBlock ≠ some b) a us) (h1 : w'.ownsRow base T E.size v' (xs.length + 1) (ks ++ us)) (g : w.grownBy w' v.ownBlock) (hnew : ∀ k, v'.ownBlock = some k → v.ownBlock = some k ∨ w.heap.size ≤ k) : OwnX E T w' base v' (xs ++ [a]) := by
  refine ⟨ks ++ us, by rw [List.length_append, List.length_singleton]; exact h1, E.snoc (E.carries ?_ _ _ h2) (E.carry ?_ _ _ ha)⟩
  all_goals
    refine Carry.keep (Keep.grownBy g (ownL v) fun k hk => mem_ownL.2 hk) (fun b hb _ hf => hf.2 (mem_ownL.1 hb)) fun b hlt hf => ⟨hf.1, fun e => ?_⟩
    rcases hnew b e with h | h
    · exact hf.2 h
    · omega
end Go.Proofs.YtaehlakefgnfmaaGreatDoor
