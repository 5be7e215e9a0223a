/-
  DERIVED. Small notions for the walks: what a slice's cells hold, a world that has only grown, a function value that decides a byte. No program in sight.
-/
import Derived.WalkKit
import Derived.WalkSpells
import Derived.WalkLawsBesides
import Derived.BigQuiet
import Derived.Deep.QuietTactic
import Derived.Deep.RegionWith
namespace Go.Proofs.YtaehlakefgnfmaaGreatDoor
set_option linter.unusedSimpArgs false
set_option linter.unusedVariables false
open Go.RowKit

theorem hid {p : Prop} (h : p) : Hid p := h

/-- w' holds all that w held; it may hold more. -/
def Ext (w w' : World) : Prop := Below w.heap.size w w'
theorem Ext.refl (w : World) : Ext w w := Below.refl _ _
theorem Ext.trans {a b c : World} (h : Ext a b) (k : Ext b c) : Ext a c := Below.trans h (Below.mono k h.size)
theorem Ext.cell {w w' : World} (h : Ext w w') {p : Addr} {v : Value} (hp : w.cell? p = some v) : w'.cell? p = some v := by
  rw [← hp]; exact Below.cell h (World.block_lt_of_cell? _ _ hp)
theorem Ext.alloc {a w : World} (h : Ext a w) (o : Obj) : Ext a (w.alloc o) := Below.alloc h h.size o
theorem Ext.drew {a w : World} (h : Ext a w) : Ext a w.drew := Below.drew h
theorem Ext.setCell {a w : World} (h : Ext a w) {p : Addr} (hp : a.heap.size ≤ p.block) (u : Value) : Ext a (w.setCell p u) := Below.setCell h hp u
theorem Ext.size {a w : World} (h : Ext a w) : a.heap.size ≤ w.heap.size := Below.size h

/-- From a on lie the cells vs. -/
def CellsAt (w : World) (a : Option Addr) (vs : List Value) : Prop :=
  ∀ i v, vs[i]? = some v → ∃ b off, a = some ⟨b, off, none⟩ ∧ w.cell? ⟨b, off + i, none⟩ = some v
theorem CellsAt.ext {w w' : World} {a : Option Addr} {vs : List Value} (h : CellsAt w a vs) (e : Ext w w') : CellsAt w' a vs := by
  intro i v hv
  obtain ⟨b, off, ha, hc⟩ := h i v hv
  exact ⟨b, off, ha, e.cell hc⟩
theorem CellsAt.nil (w : World) (a : Option Addr) : CellsAt w a [] := by intro i v h; simp at h

/-- A block known whole. -/
def Blk (w : World) (b : Nat) (t : TypeId) (vs : List Value) : Prop := w.heap[b]? = some (.cells vs.toArray t (0, 0))
theorem Blk.lt {w : World} {b : Nat} {t : TypeId} {vs : List Value} (h : Blk w b t vs) : b < w.heap.size := (Array.getElem?_eq_some_iff.1 h).1
theorem Blk.ext {w w' : World} {b : Nat} {t : TypeId} {vs : List Value} (h : Blk w b t vs) (e : Ext w w') : Blk w' b t vs := by
  unfold Blk at *
  rw [e.block b (Blk.lt h), h]
theorem Blk.alloc {w : World} {b : Nat} {t : TypeId} {vs : List Value} (h : Blk w b t vs) (o : Obj) : Blk (w.alloc o) b t vs := h.ext ((Ext.refl w).alloc o)
theorem Blk.new (w : World) (t : TypeId) (vs : List Value) : Blk (w.alloc (.cells vs.toArray t)) w.heap.size t vs := by
  unfold Blk World.alloc; simp
theorem Blk.cell {w : World} {b : Nat} {t : TypeId} {vs : List Value} (h : Blk w b t vs) (i : Nat) : w.cell? ⟨b, i, none⟩ = vs[i]? := by
  unfold Blk at h
  simp [World.cell?, h]
theorem Blk.frozen {w : World} {b : Nat} {t : TypeId} {vs : List Value} (h : Blk w b t vs) (i : Nat) : w.frozen? ⟨b, i, none⟩ = false := by
  unfold Blk at h
  simp [World.frozen?, h]
theorem Blk.set {w : World} {b : Nat} {t : TypeId} {vs : List Value} (h : Blk w b t vs) (i : Nat) (v : Value) : Blk (w.setCell ⟨b, i, none⟩ v) b t (vs.set i v) := by
  unfold Blk at *
  simp [World.setCell, Array.getElem?_modify, h]
theorem Blk.setOther {w : World} {b : Nat} {t : TypeId} {vs : List Value} (h : Blk w b t vs) (a : Addr) (ha : a.block ≠ b) (v : Value) : Blk (w.setCell a v) b t vs := by
  unfold Blk at *
  rw [Below.heap_setCell _ _ _ _ (Ne.symm ha), h]
theorem Blk.drew {w : World} {b : Nat} {t : TypeId} {vs : List Value} (h : Blk w b t vs) : Blk w.drew b t vs := h
/-- Four cells, one by one. -/
theorem Blk.four {w : World} {b : Nat} {t : TypeId} {v0 v1 v2 v3 : Value} (h : Blk w b t [v0, v1, v2, v3]) :
    w.cell? ⟨b, 0, none⟩ = some v0 ∧ w.cell? ⟨b, 1, none⟩ = some v1 ∧ w.cell? ⟨b, 2, none⟩ = some v2 ∧ w.cell? ⟨b, 3, none⟩ = some v3 ∧ (∀ i, w.frozen? ⟨b, i, none⟩ = false) :=
  ⟨h.cell 0, h.cell 1, h.cell 2, h.cell 3, h.frozen⟩

theorem CellsAt.new (w : World) (t : TypeId) (vs : List Value) : CellsAt (w.alloc (.cells vs.toArray t)) (some ⟨w.heap.size, 0, none⟩) vs := by
  intro i v hv
  refine ⟨w.heap.size, 0, rfl, ?_⟩
  rw [Nat.zero_add, (Blk.new w t vs).cell i, hv]

/-- A byte as a value. -/
def B8 (c : UInt8) : Value := .int .u8 c.toNat
/-- From a on lie these bytes. -/
def BytesAt (w : World) (a : Option Addr) (s : List UInt8) : Prop := CellsAt w a (s.map B8)
theorem BytesAt.ext {w w' : World} {a : Option Addr} {s : List UInt8} (h : BytesAt w a s) (e : Ext w w') : BytesAt w' a s := CellsAt.ext h e
theorem BytesAt.at {w : World} {a : Option Addr} {s : List UInt8} (h : BytesAt w a s) {i : Nat} (hi : i < s.length) :
    ∃ b off, a = some ⟨b, off, none⟩ ∧ w.cell? ⟨b, off + i, none⟩ = some (.int .u8 (s[i]).toNat) :=
  h i (.int .u8 (s[i]).toNat) (by simp [B8, hi])

/-- The function value 'f with what it captured' answers p of a byte, in whatever world holds what w holds. -/
structure Decides (P : Program) (w : World) (f : FuncId) (cap : Array Value) (p : UInt8 → Bool) : Prop where
  enters : ∀ args w', (callFunc f args).run P w' = .ok (.enter f args) w'
  says : ∀ w', Ext w w' → ∀ c : UInt8, Calls P f (#[.int .u8 c.toNat] ++ cap) w' fun e w'' => e = .returned (.bool (p c)) ∧ Ext w' w''
theorem Decides.ext {P : Program} {w w' : World} {f : FuncId} {cap : Array Value} {p : UInt8 → Bool} (h : Decides P w f cap p) (e : Ext w w') : Decides P w' f cap p :=
  ⟨h.enters, fun w2 h2 c => h.says w2 (e.trans h2) c⟩

/-- A part of a row of bytes. -/
theorem BytesAt.part {w : World} {b off : Nat} {s : List UInt8} (h : BytesAt w (some ⟨b, off, none⟩) s) (k n : Nat) : BytesAt w (some ⟨b, off + k, none⟩) ((s.drop k).take n) := by
  intro i v hv
  have hi : ((s.map B8))[k + i]? = some v := by
    rw [List.getElem?_map, List.getElem?_take] at hv
    split at hv
    · rw [List.getElem?_drop] at hv
      rw [List.getElem?_map]; exact hv
    · simp at hv
  obtain ⟨b', off', ha, hc⟩ := h _ v hi
  simp only [Option.some.injEq, Addr.mk.injEq, and_true] at ha
  obtain ⟨rfl, rfl⟩ := ha
  exact ⟨b, off + k, rfl, by rw [Nat.add_assoc]; exact hc⟩

/-- string(b), b a slice of bytes. -/
theorem run_string_of {P : Program} {w : World} {a : Option Addr} {s : List UInt8} (h : BytesAt w a s) (src e dst : TypeId) (hs : P.underlying src = some (.slice e)) (he : P.underlying e = some (.int .u8)) (hd : P.underlying dst = some .string)
    (len cap : Nat) (hl : s.length = len) : (convert src dst (.slice a len cap)).run P w = .ok (.string ⟨s.toArray⟩) w := by
  cases a with
  | none =>
    have hn : s = [] := by
      rcases Nat.eq_zero_or_pos s.length with h0 | h0
      · exact List.eq_nil_of_length_eq_zero h0
      · obtain ⟨b, off, ha, _⟩ := h.at h0
        simp at ha
    subst hn
    rw [run_convert_bytes_nil (P := P) w src e hs he len cap dst hd]
    rfl
  | some ad =>
    subst hl
    have hl : (loadCells ad s.length).run P w = .ok ((s.map fun c => (c.toNat : Int)).map (Value.int .u8)).toArray w := by
      have := run_loadCells_list (P := P) w ad ((s.map fun c => (c.toNat : Int)).map (Value.int .u8)) (fun j v hj => by
        have hjl : j < s.length := by
          rcases Nat.lt_or_ge j s.length with h | h
          · exact h
          · rw [List.getElem?_eq_none (by simpa using h)] at hj; simp at hj
        obtain ⟨b, off, ha, hc⟩ := h.at hjl
        simp only [Option.some.injEq] at ha
        subst ha
        have hplain : (⟨b, off, none⟩ : Addr).add j = ⟨b, off + j, none⟩ := by unfold Addr.add; split <;> simp_all
        rw [hplain, hc]
        simpa [hjl] using hj)
      simpa using this
    rw [run_convert_bytes_string w src dst e _ s.length cap hs he hd, run_bytesToString w _ s.length cap _ hl, foldl_push_bytes]
    simp [ByteArray.empty, ByteArray.emptyWithCapacity, Function.comp_def]
    rfl

theorem drop_getElem {α : Type} (s : List α) (k : Nat) (h : k < s.length) : s.drop k = s[k] :: s.drop (k + 1) := List.drop_eq_getElem_cons h
end Go.Proofs.YtaehlakefgnfmaaGreatDoor
/-
  DERIVED. The tokens of a text, in plain Lean: no program in sight.
-/
namespace Go.Proofs.YtaehlakefgnfmaaGreatDoor
set_option linter.unusedSimpArgs false
set_option linter.unusedVariables false

/-- How many bytes at the head are of a kind. -/
def spanLen (p : UInt8 → Bool) : List UInt8 → Nat
  | [] => 0
  | c :: l => if p c then spanLen p l + 1 else 0
def isBlank (c : UInt8) : Bool := c == 9 || c == 10 || c == 13 || c == 32
def isLetter (c : UInt8) : Bool := 97 ≤ c && c ≤ 122
def isDigit (c : UInt8) : Bool := 48 ≤ c && c ≤ 57
def isNameByte (c : UInt8) : Bool := isLetter c || isDigit c || c == 95
def isTextByte (c : UInt8) : Bool := 32 ≤ c && c ≤ 126 && c != 34 && c != 92

/-- How many bytes are blanks and remarks; true: within a remark. -/
def skip : Bool → List UInt8 → Nat
  | _, [] => 0
  | false, c :: l => if c == 35 then skip true l + 1 else if isBlank c then skip false l + 1 else 0
  | true, c :: l => if c == 10 then skip false l + 1 else skip true l + 1

def words : List (List UInt8) := [[102, 110], [108, 101, 116], [105, 102], [101, 108, 115, 101], [102, 111, 114], [116, 111], [114, 101, 116, 117, 114, 110], [112, 117, 116], [100, 101, 108],
  [103, 101, 116], [104, 97, 115], [108, 101, 110], [116, 114, 117, 101], [102, 97, 108, 115, 101], [105, 110, 116], [98, 111, 111, 108], [98, 121, 116, 101, 115]]
def word (s : List UInt8) : Bool := words.contains s
def twos : List (List UInt8) := [[61, 61], [33, 61], [60, 61], [62, 61], [38, 38], [124, 124]]
def ones : List (List UInt8) := [[40], [41], [123], [125], [44], [59], [58], [61], [60], [62], [43], [45], [42], [47], [37], [33]]
def signs : List (List UInt8) := twos ++ ones
/-- The bytes of the longest sign at the head; none: nothing. -/
def signAt (l : List UInt8) : List UInt8 :=
  if signs.contains (l.take 2) then l.take 2 else if signs.contains (l.take 1) then l.take 1 else []

def maxNum : Nat := 9223372036854775807
/-- The number of some digits behind n. -/
def numFrom (n : Nat) : List UInt8 → Option Nat
  | [] => some n
  | c :: l => if n > (maxNum - (c.toNat - 48)) / 10 then none else numFrom (10 * n + (c.toNat - 48)) l

/-- A token but for its place, and how many bytes it has; or an error. -/
structure Bit where
  kind : Nat
  text : List UInt8
  num : Nat
  len : Nat
  deriving DecidableEq
def nextT (l : List UInt8) : Except Nat Bit :=
  match l with
  | [] => .error 31
  | c :: r =>
    if isLetter c then
      let s := l.take (spanLen isNameByte l)
      if word s then .ok ⟨4, s, 0, s.length⟩ else if s.length > 16 then .error 32 else .ok ⟨1, s, 0, s.length⟩
    else if isDigit c then
      let s := l.take (spanLen isDigit l)
      match numFrom 0 s with
      | none => .error 32
      | some n => .ok ⟨2, [], n, s.length⟩
    else if c == 34 then
      let k := spanLen isTextByte r
      match r.drop k with
      | [] => .error 31
      | d :: _ => if d != 34 then .error 31 else if k > 64 then .error 32 else .ok ⟨3, r.take k, 0, k + 2⟩
    else
      let s := signAt l
      if s.isEmpty then .error 31 else .ok ⟨4, s, 0, s.length⟩

structure Tok where
  kind : Nat
  text : List UInt8
  num : Nat
  place : Nat
  deriving DecidableEq

/-- The tokens from a place on, no blank at the head; so many are there already; fuel. -/
def lexGo : Nat → Nat → List UInt8 → Nat → Except (Nat × Nat) (List Tok)
  | 0, _, _, _ => .ok []
  | f + 1, pos, l, cnt =>
    match l with
    | [] => .ok []
    | c :: r =>
      match nextT (c :: r) with
      | .error e => .error (e, pos)
      | .ok b =>
        if cnt = 2048 then .error (2, pos) else
          let k := b.len + skip false ((c :: r).drop b.len)
          match lexGo f (pos + k) ((c :: r).drop k) (cnt + 1) with
          | .ok ts => .ok (⟨b.kind, b.text, b.num, pos⟩ :: ts)
          | .error e => .error e
/-- The tokens of a text; or the error, and where. -/
def lex (s : List UInt8) : Except (Nat × Nat) (List Tok) :=
  if s.length > 4096 then .error (2, 0) else lexGo (s.length + 1) (skip false s) (s.drop (skip false s)) 0

theorem spanLen_le (p : UInt8 → Bool) (l : List UInt8) : spanLen p l ≤ l.length := by
  induction l with
  | nil => simp [spanLen]
  | cons c l ih => unfold spanLen; split <;> simp <;> omega
theorem spanLen_take (p : UInt8 → Bool) (l : List UInt8) : ∀ c ∈ l.take (spanLen p l), p c = true := by
  induction l with
  | nil => simp
  | cons c l ih =>
    unfold spanLen
    split
    · rename_i h
      intro d hd
      simp only [List.take_succ_cons, List.mem_cons] at hd
      rcases hd with rfl | hd
      · exact h
      · exact ih d hd
    · simp
theorem spanLen_stop (p : UInt8 → Bool) (l : List UInt8) : ∀ c r, l.drop (spanLen p l) = c :: r → p c = false := by
  induction l with
  | nil => simp
  | cons c l ih =>
    unfold spanLen
    split
    · simpa using ih
    · rename_i h
      intro d r hd
      simp only [List.drop_zero, List.cons.injEq] at hd
      rw [← hd.1]; simpa using h
theorem skip_le (m : Bool) (l : List UInt8) : skip m l ≤ l.length := by
  induction l generalizing m with
  | nil => cases m <;> simp [skip]
  | cons c l ih =>
    have h1 := ih true
    have h2 := ih false
    cases m
    · unfold skip
      split
      · simp; omega
      · split <;> simp; omega
    · unfold skip
      split <;> simp <;> omega
/-- Blanks first, then a remark, or none. -/
theorem skip_span (l : List UInt8) : skip false l = spanLen isBlank l + skip false (l.drop (spanLen isBlank l)) := by
  induction l with
  | nil => simp [skip, spanLen]
  | cons c l ih =>
    by_cases hb : isBlank c = true
    · have h35 : (c == 35) = false := by
        cases h : c == 35
        · rfl
        · rw [eq_of_beq h] at hb; revert hb; decide
      have h1 : spanLen isBlank (c :: l) = spanLen isBlank l + 1 := by simp [spanLen, hb]
      rw [h1]
      simp only [List.drop_succ_cons]
      have h2 : skip false (c :: l) = skip false l + 1 := by simp [skip, h35, hb]
      omega
    · have h1 : spanLen isBlank (c :: l) = 0 := by simp [spanLen, hb]
      rw [h1]; simp
theorem skip_true (l : List UInt8) : skip true l = spanLen (· != 10) l + skip false (l.drop (spanLen (· != 10) l)) := by
  induction l with
  | nil => simp [skip, spanLen]
  | cons c l ih =>
    by_cases hb : c = 10
    · subst hb; simp [spanLen, skip, isBlank]
    · have h1 : spanLen (· != 10) (c :: l) = spanLen (· != 10) l + 1 := by simp [spanLen, hb]
      rw [h1]
      simp only [List.drop_succ_cons]
      have h2 : skip true (c :: l) = skip true l + 1 := by simp [skip, hb]
      omega
theorem skip_remark (l : List UInt8) : skip false (35 :: l) = spanLen (· != 10) (35 :: l) + skip false ((35 :: l).drop (spanLen (· != 10) (35 :: l))) := by
  have h1 : spanLen (· != 10) (35 :: l) = spanLen (· != 10) l + 1 := by simp [spanLen]
  rw [h1]
  simp only [List.drop_succ_cons]
  have h2 : skip false (35 :: l) = skip true l + 1 := by simp [skip]
  have := skip_true l
  omega
theorem skip_none (c : UInt8) (l : List UInt8) (h1 : c ≠ 35) (h2 : isBlank c = false) : skip false (c :: l) = 0 := by
  simp [skip, h1, h2]
theorem skip_pos_le (l : List UInt8) (k : Nat) (h : k ≤ l.length) : k + skip false (l.drop k) ≤ l.length := by
  have := skip_le false (l.drop k)
  rw [List.length_drop] at this
  omega
theorem signAt_le (l : List UInt8) : (signAt l).length ≤ l.length := by
  unfold signAt
  split
  · simp; omega
  · split
    · simp; omega
    · simp
theorem nextT_len {l : List UInt8} {b : Bit} (h : nextT l = .ok b) : 1 ≤ b.len ∧ b.len ≤ l.length := by
  cases l with
  | nil => simp [nextT] at h
  | cons c r =>
    simp only [nextT] at h
    split at h
    · rename_i hl
      have h1 : 1 ≤ spanLen isNameByte (c :: r) := by simp [spanLen, isNameByte, hl]
      have h2 := spanLen_le isNameByte (c :: r)
      have h3 : ((c :: r).take (spanLen isNameByte (c :: r))).length = spanLen isNameByte (c :: r) := by rw [List.length_take]; omega
      split at h
      · cases h; simp only [h3]; exact ⟨h1, h2⟩
      · split at h
        · cases h
        · cases h; simp only [h3]; exact ⟨h1, h2⟩
    · split at h
      · rename_i hl
        have h1 : 1 ≤ spanLen isDigit (c :: r) := by simp [spanLen, hl]
        have h2 := spanLen_le isDigit (c :: r)
        have h3 : ((c :: r).take (spanLen isDigit (c :: r))).length = spanLen isDigit (c :: r) := by rw [List.length_take]; omega
        split at h
        · cases h
        · cases h; simp only [h3]; exact ⟨h1, h2⟩
      · split at h
        · split at h
          · cases h
          · rename_i d q hd
            split at h
            · cases h
            · split at h
              · cases h
              · cases h
                have h2 : 0 < (r.drop (spanLen isTextByte r)).length := by rw [hd]; simp
                rw [List.length_drop] at h2
                simp only [List.length_cons]
                omega
        · split at h
          · cases h
          · rename_i he
            cases h
            have h2 := signAt_le (c :: r)
            refine ⟨?_, h2⟩
            cases hs : signAt (c :: r) with
            | nil => rw [hs] at he; simp at he
            | cons => simp
def pre (acc : List Tok) : Except (Nat × Nat) (List Tok) → Except (Nat × Nat) (List Tok)
  | .ok ts => .ok (acc ++ ts)
  | .error e => .error e
theorem pre_nil (o : Except (Nat × Nat) (List Tok)) : pre [] o = o := by cases o <;> rfl
theorem lexGo_end (acc : List Tok) (f pos cnt : Nat) : pre acc (lexGo (f + 1) pos [] cnt) = .ok acc := by simp [lexGo, pre]
theorem lexGo_err (acc : List Tok) {f pos cnt e : Nat} {l : List UInt8} (hl : l ≠ []) (h : nextT l = .error e) : pre acc (lexGo (f + 1) pos l cnt) = .error (e, pos) := by
  cases l with
  | nil => exact absurd rfl hl
  | cons c r => simp only [lexGo, h, pre]
theorem lexGo_many (acc : List Tok) {f pos : Nat} {l : List UInt8} {b : Bit} (hl : l ≠ []) (h : nextT l = .ok b) : pre acc (lexGo (f + 1) pos l 2048) = .error (2, pos) := by
  cases l with
  | nil => exact absurd rfl hl
  | cons c r => simp only [lexGo, h, pre, if_true]
theorem lexGo_step (acc : List Tok) {f pos cnt : Nat} {l : List UInt8} {b : Bit} (hl : l ≠ []) (h : nextT l = .ok b) (hc : cnt ≠ 2048) :
    pre acc (lexGo (f + 1) pos l cnt) = pre (acc ++ [⟨b.kind, b.text, b.num, pos⟩]) (lexGo f (pos + (b.len + skip false (l.drop b.len))) (l.drop (b.len + skip false (l.drop b.len))) (cnt + 1)) := by
  cases l with
  | nil => exact absurd rfl hl
  | cons c r =>
    simp only [lexGo, h, if_neg hc]
    generalize lexGo f _ _ _ = o
    cases o <;> simp [pre]
end Go.Proofs.YtaehlakefgnfmaaGreatDoor
