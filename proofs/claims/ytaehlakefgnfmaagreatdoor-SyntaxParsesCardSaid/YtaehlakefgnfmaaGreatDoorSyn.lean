/-
  DERIVED. PLAIN: the parser of programs, over tokens. No program in sight.
-/
import Derived.Test.YtaehlakefgnfmaaGreatDoorBase
namespace Go.Proofs.YtaehlakefgnfmaaGreatDoor
set_option linter.unusedSimpArgs false
set_option linter.unusedVariables false

/-- An expression. -/
inductive Ex where
  | mk (op num : Nat) (text : List UInt8) (kids : List Ex) (at_ : Nat)
/-- A statement. -/
inductive St where
  | mk (op : Nat) (text : List UInt8) (exprs : List Ex) (body els : List St) (at_ : Nat)
/-- A parameter. -/
structure Pa where
  name : List UInt8
  type : Nat
/-- A function. -/
structure Fu where
  name : List UInt8
  params : List Pa
  result : Nat
  body : List St
  at_ : Nat
/-- What a reading comes to: a thing and the tokens behind it; or an error, and the tokens that stood ahead of it. -/
inductive Res (α : Type) where
  | ok (a : α) (rest : List Tok)
  | err (e : Nat) (rest : List Tok)
def Res.bind {α β : Type} : Res α → (α → List Tok → Res β) → Res β
  | .ok a r, k => k a r
  | .err e r, _ => .err e r
/-- A reading. -/
abbrev Rd (α : Type) := List Tok → Res α

def isSign (s : List UInt8) : List Tok → Bool
  | [] => false
  | t :: _ => t.kind == 4 && t.text == s
def isName : List Tok → Bool
  | [] => false
  | t :: _ => t.kind == 1
def headText : List Tok → List UInt8
  | [] => []
  | t :: _ => t.text
def headPlace : List Tok → Nat
  | [] => 0
  | t :: _ => t.place
def placeOf (e : Nat) : List Tok → Nat
  | [] => e
  | t :: _ => t.place
def must {α : Type} (s : List UInt8) (ts : List Tok) (k : List Tok → Res α) : Res α := if isSign s ts then k ts.tail else .err 41 ts
def name {α : Type} (ts : List Tok) (k : List UInt8 → List Tok → Res α) : Res α := if isName ts then k (headText ts) ts.tail else .err 41 ts

/-- Things with commas between, up to a bracket. -/
def listGo {α : Type} (one : Rd α) : Nat → Bool → List α → Rd (List α)
  | 0, _, _, ts => .err 0 ts
  | f + 1, first, acc, ts =>
    if isSign [41] ts then .ok acc ts.tail
    else if first then (one ts).bind fun a r => listGo one f false (acc ++ [a]) r
    else must [44] ts fun ts' => (one ts').bind fun a r => listGo one f false (acc ++ [a]) r
def listS {α : Type} (one : Rd α) : Rd (List α) := fun ts => listGo one (ts.length + 1) true [] ts

/-- An expression in brackets. -/
def innerS (e : Rd Ex) : Rd Ex := fun ts => must [40] ts fun ts => (e ts).bind fun x r => must [41] r fun r => .ok x r
/-- What has no sign. -/
def wordsS (e : Rd Ex) : Rd Ex := fun ts =>
  if isSign [116, 114, 117, 101] ts then .ok (.mk 2 1 [] [] (headPlace ts)) ts.tail
  else if isSign [102, 97, 108, 115, 101] ts then .ok (.mk 2 0 [] [] (headPlace ts)) ts.tail
  else if isSign [40] ts then innerS e ts
  else if isSign [103, 101, 116] ts then (innerS e ts.tail).bind fun x r => .ok (.mk 8 0 [] [x] (headPlace ts)) r
  else if isSign [104, 97, 115] ts then (innerS e ts.tail).bind fun x r => .ok (.mk 9 0 [] [x] (headPlace ts)) r
  else must [108, 101, 110] ts fun r => (innerS e r).bind fun x r => .ok (.mk 10 0 [] [x] (headPlace ts)) r
def primaryS (e : Rd Ex) : Rd Ex
  | [] => .err 41 []
  | t :: r =>
    if t.kind = 2 then .ok (.mk 1 t.num [] [] t.place) r
    else if t.kind = 3 then .ok (.mk 3 0 t.text [] t.place) r
    else if t.kind = 1 then
      if isSign [40] r then (listS e r.tail).bind fun ks r => .ok (.mk 5 0 t.text ks t.place) r
      else .ok (.mk 4 0 t.text [] t.place) r
    else wordsS e (t :: r)
/-- What has signs ahead, or none; o: what has one sign ahead already. -/
def oneS (e o : Rd Ex) : Rd Ex := fun ts =>
  if isSign [45] ts then (o ts.tail).bind fun x r => .ok (.mk 7 0 [45] [x] (headPlace ts)) r
  else if isSign [33] ts then (o ts.tail).bind fun x r => .ok (.mk 7 0 [33] [x] (headPlace ts)) r
  else primaryS e ts
/-- The signs of a level, the loosest first. -/
def levelSigns : Nat → List (List UInt8)
  | 0 => [[124, 124]]
  | 1 => [[38, 38]]
  | 2 => [[61, 61], [33, 61], [60], [60, 61], [62], [62, 61]]
  | 3 => [[43], [45]]
  | _ => [[42], [47], [37]]
def isOp (n : Nat) : List Tok → Bool
  | [] => false
  | t :: _ => t.kind == 4 && (levelSigns n).contains t.text
def levelGo (next : Rd Ex) (n : Nat) : Nat → Ex → Rd Ex
  | 0, _, ts => .err 0 ts
  | f + 1, x, ts =>
    if isOp n ts then (next ts.tail).bind fun y r =>
      if n = 2 then .ok (.mk 6 0 (headText ts) [x, y] (headPlace ts)) r
      else levelGo next n f (.mk 6 0 (headText ts) [x, y] (headPlace ts)) r
    else .ok x ts
/-- What is of a level: m = 5 - n. -/
def levelS (one : Rd Ex) : Nat → Rd Ex
  | 0 => one
  | m + 1 => fun ts => (levelS one m ts).bind fun x r => levelGo (levelS one m) (4 - m) (r.length + 1) x r
/-- An expression, and what has signs ahead, so deep: k = 33 - d; if it is not too deep. -/
def EK : Nat → Rd Ex × Rd Ex
  | 0 => (fun ts => .err 42 ts, fun ts => .err 42 ts)
  | k + 1 => (levelS (oneS (EK k).1 (EK k).2) 5, oneS (EK k).1 (EK k).2)

/-- A statement. -/
def stmtS (e : Rd Ex) (b : Rd (List St)) : Rd St := fun ts =>
  if isSign [108, 101, 116] ts then name ts.tail fun nm r => must [61] r fun r => (e r).bind fun x r => must [59] r fun r => .ok (.mk 1 nm [x] [] [] (headPlace ts)) r
  else if isSign [105, 102] ts then (e ts.tail).bind fun x r => (b r).bind fun bd r =>
    if isSign [101, 108, 115, 101] r then (b r.tail).bind fun el r => .ok (.mk 3 [] [x] bd el (headPlace ts)) r
    else .ok (.mk 3 [] [x] bd [] (headPlace ts)) r
  else if isSign [102, 111, 114] ts then name ts.tail fun nm r => must [61] r fun r => (e r).bind fun x r => must [116, 111] r fun r => (e r).bind fun y r => (b r).bind fun bd r => .ok (.mk 4 nm [x, y] bd [] (headPlace ts)) r
  else if isSign [114, 101, 116, 117, 114, 110] ts then
    if isSign [59] ts.tail then .ok (.mk 5 [] [] [] [] (headPlace ts)) ts.tail.tail
    else (e ts.tail).bind fun x r => must [59] r fun r => .ok (.mk 5 [] [x] [] [] (headPlace ts)) r
  else if isSign [112, 117, 116] ts then must [40] ts.tail fun r => (e r).bind fun x r => must [44] r fun r => (e r).bind fun y r => must [41] r fun r => must [59] r fun r => .ok (.mk 6 [] [x, y] [] [] (headPlace ts)) r
  else if isSign [100, 101, 108] ts then must [40] ts.tail fun r => (e r).bind fun x r => must [41] r fun r => must [59] r fun r => .ok (.mk 7 [] [x] [] [] (headPlace ts)) r
  else if isName ts && isSign [61] ts.tail then (e ts.tail.tail).bind fun x r => must [59] r fun r => .ok (.mk 2 (headText ts) [x] [] [] (headPlace ts)) r
  else (e ts).bind fun x r => must [59] r fun r => .ok (.mk 8 [] [x] [] [] (headPlace ts)) r
def blockGo (s : Rd St) : Nat → List St → Rd (List St)
  | 0, _, ts => .err 0 ts
  | f + 1, acc, ts => if isSign [125] ts then .ok acc ts.tail else (s ts).bind fun x r => blockGo s f (acc ++ [x]) r
/-- A block; ok: it is not too deep. -/
def blockS (s : Rd St) (ok : Bool) : Rd (List St) := fun ts =>
  if isSign [123] ts then if ok then blockGo s (ts.length + 1) [] ts.tail else .err 42 ts else .err 41 ts
/-- A block so deep: k = 33 - d. -/
def BK : Nat → Rd (List St)
  | 0 => blockS (fun ts => .err 0 ts) false
  | k + 1 => blockS (stmtS (EK k).1 (BK k)) true
/-- A type. -/
def typS : Rd Nat := fun ts =>
  if isSign [105, 110, 116] ts then .ok 1 ts.tail
  else if isSign [98, 111, 111, 108] ts then .ok 2 ts.tail
  else must [98, 121, 116, 101, 115] ts fun r => .ok 3 r
def paramS : Rd Pa := fun ts => name ts fun nm r => must [58] r fun r => (typS r).bind fun t r => .ok ⟨nm, t⟩ r
/-- A function. -/
def funS : Rd Fu := fun ts => must [102, 110] ts fun r => name r fun nm r => must [40] r fun r => (listS paramS r).bind fun ps r =>
  if isSign [58] r then (typS r.tail).bind fun t r => (BK 32 r).bind fun bd r => .ok ⟨nm, ps, t, bd, headPlace ts⟩ r
  else (BK 32 r).bind fun bd r => .ok ⟨nm, ps, 0, bd, headPlace ts⟩ r
def progGo : Nat → List Fu → Rd (List Fu)
  | 0, _, ts => .err 0 ts
  | f + 1, acc, ts => match ts with
    | [] => .ok acc []
    | t :: r => (funS (t :: r)).bind fun x r => progGo f (acc ++ [x]) r
def progS : Rd (List Fu) := fun ts => progGo (ts.length + 1) [] ts
/-- The program that a text is; or an error, and where. -/
def parse (s : List UInt8) : Except (Nat × Nat) (List Fu) :=
  match lex s with
  | .error e => .error e
  | .ok ts => match progS ts with
    | .ok p _ => .ok p
    | .err e r => .error (e, placeOf s.length r)
end Go.Proofs.YtaehlakefgnfmaaGreatDoor
/-
  DERIVED. PLAIN: what the parser of programs keeps: it goes on, its errors are two, what it makes is well formed and no greater than the tokens that it took. No program in sight.
-/
namespace Go.Proofs.YtaehlakefgnfmaaGreatDoor
set_option linter.unusedSimpArgs false
set_option linter.unusedVariables false

mutual
def Ex.size : Ex → Nat
  | .mk _ _ _ kids _ => 1 + Ex.sizes kids
def Ex.sizes : List Ex → Nat
  | [] => 0
  | x :: l => x.size + Ex.sizes l
end
mutual
def St.size : St → Nat
  | .mk _ _ es b l _ => 1 + Ex.sizes es + St.sizes b + St.sizes l
def St.sizes : List St → Nat
  | [] => 0
  | x :: l => x.size + St.sizes l
end
theorem Ex.sizes_append (a b : List Ex) : Ex.sizes (a ++ b) = Ex.sizes a + Ex.sizes b := by
  induction a with
  | nil => simp [Ex.sizes]
  | cons x l ih => simp [Ex.sizes, ih]; omega
theorem St.sizes_append (a b : List St) : St.sizes (a ++ b) = St.sizes a + St.sizes b := by
  induction a with
  | nil => simp [St.sizes]
  | cons x l ih => simp [St.sizes, ih]; omega
theorem Ex.size_pos (x : Ex) : 1 ≤ x.size := by cases x; simp [Ex.size]
theorem St.size_pos (x : St) : 1 ≤ x.size := by cases x; simp [St.size]; omega
def Fu.size (f : Fu) : Nat := 1 + f.params.length + St.sizes f.body
def Fu.sizes : List Fu → Nat
  | [] => 0
  | x :: l => x.size + Fu.sizes l
theorem Fu.sizes_append (a b : List Fu) : Fu.sizes (a ++ b) = Fu.sizes a + Fu.sizes b := by
  induction a with
  | nil => simp [Fu.sizes]
  | cons x l ih => simp [Fu.sizes, ih]; omega

def nameOk (s : List UInt8) : Prop := (∃ c r, s = c :: r ∧ isLetter c = true) ∧ (∀ c ∈ s, isNameByte c = true) ∧ word s = false ∧ s.length ≤ 16
def textOk (s : List UInt8) : Prop := (∀ c ∈ s, isTextByte c = true) ∧ s.length ≤ 64
/-- A token that a text may have. -/
def Tok.wf (t : Tok) : Prop :=
  (t.kind = 1 ∧ nameOk t.text ∧ t.num = 0) ∨ (t.kind = 2 ∧ t.text = [] ∧ t.num ≤ maxNum) ∨ (t.kind = 3 ∧ textOk t.text ∧ t.num = 0) ∨ (t.kind = 4 ∧ (signs.contains t.text = true ∨ word t.text = true) ∧ t.num = 0)
def Wf (ts : List Tok) : Prop := ∀ t ∈ ts, t.wf
theorem Wf.tail {ts : List Tok} (h : Wf ts) : Wf ts.tail := fun t ht => h t (List.mem_of_mem_tail ht)

def opSign (s : List UInt8) : Prop := ∃ n, n < 5 ∧ (levelSigns n).contains s = true
inductive WFx : Ex → Prop
  | num (n p : Nat) (h : n ≤ maxNum) : WFx (.mk 1 n [] [] p)
  | bool (n p : Nat) (h : n ≤ 1) : WFx (.mk 2 n [] [] p)
  | text (s : List UInt8) (p : Nat) (h : textOk s) : WFx (.mk 3 0 s [] p)
  | name (s : List UInt8) (p : Nat) (h : nameOk s) : WFx (.mk 4 0 s [] p)
  | call (s : List UInt8) (ks : List Ex) (p : Nat) (h : nameOk s) (hk : ∀ x ∈ ks, WFx x) : WFx (.mk 5 0 s ks p)
  | two (s : List UInt8) (a b : Ex) (p : Nat) (h : opSign s) (ha : WFx a) (hb : WFx b) : WFx (.mk 6 0 s [a, b] p)
  | one (s : List UInt8) (a : Ex) (p : Nat) (h : s = [45] ∨ s = [33]) (ha : WFx a) : WFx (.mk 7 0 s [a] p)
  | word (op : Nat) (a : Ex) (p : Nat) (h : op = 8 ∨ op = 9 ∨ op = 10) (ha : WFx a) : WFx (.mk op 0 [] [a] p)
inductive WFs : St → Prop
  | let_ (nm : List UInt8) (x : Ex) (p : Nat) (h : nameOk nm) (hx : WFx x) : WFs (.mk 1 nm [x] [] [] p)
  | set_ (nm : List UInt8) (x : Ex) (p : Nat) (h : nameOk nm) (hx : WFx x) : WFs (.mk 2 nm [x] [] [] p)
  | if_ (x : Ex) (b l : List St) (p : Nat) (hx : WFx x) (hb : ∀ s ∈ b, WFs s) (hl : ∀ s ∈ l, WFs s) : WFs (.mk 3 [] [x] b l p)
  | for_ (nm : List UInt8) (x y : Ex) (b : List St) (p : Nat) (h : nameOk nm) (hx : WFx x) (hy : WFx y) (hb : ∀ s ∈ b, WFs s) : WFs (.mk 4 nm [x, y] b [] p)
  | ret0 (p : Nat) : WFs (.mk 5 [] [] [] [] p)
  | ret1 (x : Ex) (p : Nat) (hx : WFx x) : WFs (.mk 5 [] [x] [] [] p)
  | put (x y : Ex) (p : Nat) (hx : WFx x) (hy : WFx y) : WFs (.mk 6 [] [x, y] [] [] p)
  | del (x : Ex) (p : Nat) (hx : WFx x) : WFs (.mk 7 [] [x] [] [] p)
  | do_ (x : Ex) (p : Nat) (hx : WFx x) : WFs (.mk 8 [] [x] [] [] p)
def Pa.wf (p : Pa) : Prop := nameOk p.name ∧ (p.type = 1 ∨ p.type = 2 ∨ p.type = 3)
def Fu.wf (f : Fu) : Prop := nameOk f.name ∧ (∀ p ∈ f.params, p.wf) ∧ f.result ≤ 3 ∧ ∀ s ∈ f.body, WFs s

/-- A reading that has gone well, or ended in one of two errors. -/
def Fine {α : Type} (n : Nat) (sz : α → Nat) (P : α → Prop) : Res α → Prop
  | .ok a r => sz a + r.length ≤ n ∧ P a ∧ Wf r
  | .err e r => (e = 41 ∨ e = 42) ∧ r.length ≤ n
def Inv {α : Type} (sz : α → Nat) (P : α → Prop) (f : Rd α) : Prop := ∀ ts, Wf ts → Fine ts.length sz P (f ts)

theorem Fine.mono {α : Type} {n n' : Nat} {sz : α → Nat} {P : α → Prop} {R : Res α} (h : Fine n sz P R) (hn : n ≤ n') : Fine n' sz P R := by
  cases R with
  | ok a r => exact ⟨by have := h.1; omega, h.2⟩
  | err e r => exact ⟨h.1, by have := h.2; omega⟩
theorem Fine.bind {α β : Type} {n n' : Nat} {sz : α → Nat} {sz' : β → Nat} {P : α → Prop} {P' : β → Prop} {R : Res α} {k : α → List Tok → Res β} (h : Fine n sz P R) (hn : n ≤ n')
    (hk : ∀ a r, P a → Wf r → sz a + r.length ≤ n → Fine n' sz' P' (k a r)) : Fine n' sz' P' (R.bind k) := by
  cases R with
  | ok a r => exact hk a r h.2.1 h.2.2 h.1
  | err e r => exact ⟨h.1, by have := h.2; omega⟩
theorem isSign_cons {s : List UInt8} {ts : List Tok} (h : isSign s ts = true) : ∃ t r, ts = t :: r ∧ t.kind = 4 ∧ t.text = s := by
  cases ts with
  | nil => simp [isSign] at h
  | cons t r => simp [isSign] at h; exact ⟨t, r, rfl, h.1, h.2⟩
theorem isSign_len {s : List UInt8} {ts : List Tok} (h : isSign s ts = true) : ts.tail.length + 1 = ts.length := by
  obtain ⟨t, r, rfl, _⟩ := isSign_cons h; rfl
theorem isName_cons {ts : List Tok} (h : isName ts = true) : ∃ t r, ts = t :: r ∧ t.kind = 1 := by
  cases ts with
  | nil => simp [isName] at h
  | cons t r => simp [isName] at h; exact ⟨t, r, rfl, h⟩
theorem isName_len {ts : List Tok} (h : isName ts = true) : ts.tail.length + 1 = ts.length := by
  obtain ⟨t, r, rfl, _⟩ := isName_cons h; rfl
theorem name_ok {ts : List Tok} (hw : Wf ts) (h : isName ts = true) : nameOk (headText ts) := by
  obtain ⟨t, r, rfl, hk⟩ := isName_cons h
  rcases hw t (by simp) with h | h | h | h
  · exact h.2.1
  all_goals omega
theorem fine_must {α : Type} {n : Nat} {sz : α → Nat} {P : α → Prop} {s : List UInt8} {ts : List Tok} {k : List Tok → Res α} (hw : Wf ts) (hn : ts.length ≤ n)
    (hk : Wf ts.tail → ts.tail.length + 1 = ts.length → Fine n sz P (k ts.tail)) : Fine n sz P (must s ts k) := by
  unfold must
  split
  · rename_i h
    exact hk hw.tail (isSign_len h)
  · exact ⟨.inl rfl, hn⟩
theorem fine_name {α : Type} {n : Nat} {sz : α → Nat} {P : α → Prop} {ts : List Tok} {k : List UInt8 → List Tok → Res α} (hw : Wf ts) (hn : ts.length ≤ n)
    (hk : nameOk (headText ts) → Wf ts.tail → ts.tail.length + 1 = ts.length → Fine n sz P (k (headText ts) ts.tail)) : Fine n sz P (name ts k) := by
  unfold name
  split
  · rename_i h
    exact hk (name_ok hw h) hw.tail (isName_len h)
  · exact ⟨.inl rfl, hn⟩

/-- Things in a row. -/
def AllP {α : Type} (P : α → Prop) (l : List α) : Prop := ∀ x ∈ l, P x
def sumOf {α : Type} (sz : α → Nat) : List α → Nat
  | [] => 0
  | x :: l => sz x + sumOf sz l
theorem sumOf_append {α : Type} (sz : α → Nat) (a b : List α) : sumOf sz (a ++ b) = sumOf sz a + sumOf sz b := by
  induction a with
  | nil => simp [sumOf]
  | cons x l ih => simp [sumOf, ih]; omega
theorem Ex.sizes_sum (l : List Ex) : Ex.sizes l = sumOf Ex.size l := by
  induction l with
  | nil => rfl
  | cons x l ih => simp [Ex.sizes, sumOf, ih]
theorem St.sizes_sum (l : List St) : St.sizes l = sumOf St.size l := by
  induction l with
  | nil => rfl
  | cons x l ih => simp [St.sizes, sumOf, ih]
theorem AllP.snoc {α : Type} {P : α → Prop} {l : List α} {a : α} (h : AllP P l) (ha : P a) : AllP P (l ++ [a]) := by
  intro x hx
  rcases List.mem_append.1 hx with hx | hx
  · exact h x hx
  · rw [List.mem_singleton.1 hx]; exact ha

theorem inv_listGo {α : Type} {one : Rd α} {sz : α → Nat} {P : α → Prop} (h1 : Inv sz P one) (hpos : ∀ a, 1 ≤ sz a) :
    ∀ (f : Nat) (first : Bool) (acc : List α) (ts : List Tok), Wf ts → AllP P acc → ts.length < f → Fine (sumOf sz acc + ts.length) (fun l => sumOf sz l + 1) (AllP P) (listGo one f first acc ts) := by
  intro f
  induction f with
  | zero => intro first acc ts _ _ h; omega
  | succ f ih =>
    intro first acc ts hw hp hf
    unfold listGo
    split
    · rename_i h
      exact ⟨by have := isSign_len h; dsimp only; omega, hp, hw.tail⟩
    · have step : ∀ us : List Tok, Wf us → us.length ≤ ts.length → Fine (sumOf sz acc + ts.length) (fun l => sumOf sz l + 1) (AllP P) ((one us).bind fun a r => listGo one f false (acc ++ [a]) r) := by
        intro us hus hul
        refine (h1 us hus).bind (by omega) fun a r ha hr hl => ?_
        have hpa := hpos a
        refine (ih false (acc ++ [a]) r hr (hp.snoc ha) (by omega)).mono ?_
        rw [sumOf_append]
        simp only [sumOf]
        omega
      split
      · exact step ts hw (Nat.le_refl _)
      · exact fine_must hw (by omega) fun hw' hl => step _ hw' (by omega)
theorem inv_list {α : Type} {one : Rd α} {sz : α → Nat} {P : α → Prop} (h1 : Inv sz P one) (hpos : ∀ a, 1 ≤ sz a) : Inv (fun l => sumOf sz l + 1) (AllP P) (listS one) := by
  intro ts hw
  have := inv_listGo h1 hpos (ts.length + 1) true [] ts hw (by intro x hx; simp at hx) (by omega)
  rw [sumOf, Nat.zero_add] at this
  exact this

theorem inv_inner {e : Rd Ex} (he : Inv Ex.size WFx e) : Inv (fun x => x.size + 2) WFx (innerS e) := by
  intro ts hw
  refine fine_must hw (by omega) fun hw1 h1 => ?_
  refine (he _ hw1).bind (by omega) fun x r hx hr hl => ?_
  refine fine_must hr (by omega) fun hw2 h2 => ?_
  exact ⟨by dsimp only; omega, hx, hw2⟩
theorem inv_words {e : Rd Ex} (he : Inv Ex.size WFx e) : Inv Ex.size WFx (wordsS e) := by
  intro ts hw
  unfold wordsS
  have inner : ∀ (op : Nat), (op = 8 ∨ op = 9 ∨ op = 10) → Wf ts.tail → ts.tail.length + 1 = ts.length → Fine ts.length Ex.size WFx ((innerS e ts.tail).bind fun x r => .ok (.mk op 0 [] [x] (headPlace ts)) r) := by
    intro op hop hw1 h1
    refine (inv_inner he _ hw1).bind (by omega) fun x r hx hr hl => ?_
    exact ⟨by simp [Ex.size, Ex.sizes]; omega, .word op x _ hop hx, hr⟩
  split
  · rename_i h
    exact ⟨by have := isSign_len h; simp [Ex.size, Ex.sizes]; simp at this; omega, .bool 1 _ (by omega), hw.tail⟩
  · split
    · rename_i h
      exact ⟨by have := isSign_len h; simp [Ex.size, Ex.sizes]; simp at this; omega, .bool 0 _ (by omega), hw.tail⟩
    · split
      · have := inv_inner he ts hw
        revert this
        cases innerS e ts with
        | ok a r => exact fun h => ⟨by have := h.1; dsimp only at this; omega, h.2⟩
        | err x r => exact id
      · split
        · rename_i h
          exact inner 8 (.inl rfl) hw.tail (isSign_len h)
        · split
          · rename_i h
            exact inner 9 (.inr (.inl rfl)) hw.tail (isSign_len h)
          · exact fine_must hw (by omega) fun hw1 h1 => inner 10 (.inr (.inr rfl)) hw1 h1
theorem primaryS_cons (e : Rd Ex) (t : Tok) (r : List Tok) : primaryS e (t :: r) =
    if t.kind = 2 then .ok (.mk 1 t.num [] [] t.place) r
    else if t.kind = 3 then .ok (.mk 3 0 t.text [] t.place) r
    else if t.kind = 1 then
      if isSign [40] r then (listS e r.tail).bind fun ks r => .ok (.mk 5 0 t.text ks t.place) r
      else .ok (.mk 4 0 t.text [] t.place) r
    else wordsS e (t :: r) := rfl
theorem inv_primary {e : Rd Ex} (he : Inv Ex.size WFx e) : Inv Ex.size WFx (primaryS e) := by
  intro ts hw
  cases ts with
  | nil => exact ⟨.inl rfl, Nat.le_refl _⟩
  | cons t r =>
    have ht := hw t (by simp)
    have hr : Wf r := hw.tail
    rw [primaryS_cons]
    split
    · rename_i h
      refine ⟨by simp [Ex.size, Ex.sizes]; omega, .num _ _ ?_, hr⟩
      rcases ht with h' | h' | h' | h'
      · omega
      · exact h'.2.2
      all_goals omega
    · split
      · rename_i h
        refine ⟨by simp [Ex.size, Ex.sizes]; omega, .text _ _ ?_, hr⟩
        rcases ht with h' | h' | h' | h'
        · omega
        · omega
        · exact h'.2.1
        · omega
      · split
        · rename_i h
          have hn := name_ok hw (by simp [isName, h])
          split
          · rename_i hb
            have hb' := isSign_len hb
            refine ((inv_list he Ex.size_pos) _ hr.tail).bind (by simp; omega) fun ks q hks hq hl => ?_
            exact ⟨by simp [Ex.size, Ex.sizes_sum]; omega, .call _ _ _ hn hks, hq⟩
          · exact ⟨by simp [Ex.size, Ex.sizes]; omega, .name _ _ hn, hr⟩
        · exact inv_words he _ hw
theorem inv_one {e o : Rd Ex} (he : Inv Ex.size WFx e) (ho : Inv Ex.size WFx o) : Inv Ex.size WFx (oneS e o) := by
  intro ts hw
  have step : ∀ s, (s = [45] ∨ s = [33]) → isSign s ts = true → Fine ts.length Ex.size WFx ((o ts.tail).bind fun x r => .ok (.mk 7 0 s [x] (headPlace ts)) r) := by
    intro s hs h
    have hl := isSign_len h
    refine (ho _ hw.tail).bind (by omega) fun x r hx hr hl => ?_
    exact ⟨by simp [Ex.size, Ex.sizes]; omega, .one s x _ hs hx, hr⟩
  unfold oneS
  split
  · rename_i h; exact step _ (.inl rfl) h
  · split
    · rename_i h; exact step _ (.inr rfl) h
    · exact inv_primary he ts hw
theorem isOp_cons {n : Nat} {ts : List Tok} (h : isOp n ts = true) : ∃ t r, ts = t :: r ∧ t.kind = 4 ∧ (levelSigns n).contains t.text = true := by
  cases ts with
  | nil => simp [isOp] at h
  | cons t r => simp [isOp] at h; exact ⟨t, r, rfl, h.1, by simpa using h.2⟩
theorem inv_levelGo {next : Rd Ex} (hn : Inv Ex.size WFx next) (n : Nat) (h5 : n < 5) : ∀ (f : Nat) (x : Ex) (ts : List Tok), Wf ts → WFx x → ts.length < f → Fine (x.size + ts.length) Ex.size WFx (levelGo next n f x ts) := by
  intro f
  induction f with
  | zero => intro x ts _ _ h; omega
  | succ f ih =>
    intro x ts hw hx hf
    unfold levelGo
    split
    · rename_i h
      obtain ⟨t, r, rfl, hk, ht⟩ := isOp_cons h
      simp only [List.tail_cons, headText, headPlace]
      simp only [List.length_cons] at hf
      refine (hn r hw.tail).bind (by simp; omega) fun y q hy hq hl => ?_
      have hwf : WFx (.mk 6 0 t.text [x, y] t.place) := .two _ _ _ _ ⟨n, h5, ht⟩ hx hy
      have hsz : (Ex.mk 6 0 t.text [x, y] t.place).size = 1 + x.size + y.size := by simp [Ex.size, Ex.sizes]; omega
      split
      · exact ⟨by rw [hsz]; simp; omega, hwf, hq⟩
      · refine (ih _ q hq hwf (by omega)).mono ?_
        rw [hsz]; simp; omega
    · exact ⟨Nat.le_refl _, hx, hw⟩
theorem inv_level {one : Rd Ex} (h1 : Inv Ex.size WFx one) : ∀ m, m ≤ 5 → Inv Ex.size WFx (levelS one m) := by
  intro m
  induction m with
  | zero => exact fun _ => h1
  | succ m ih =>
    intro hm ts hw
    unfold levelS
    refine (ih (by omega) ts hw).bind (Nat.le_refl _) fun x r hx hr hl => ?_
    exact (inv_levelGo (ih (by omega)) (4 - m) (by omega) _ x r hr hx (by omega)).mono hl
theorem inv_EK (k : Nat) : Inv Ex.size WFx (EK k).1 ∧ Inv Ex.size WFx (EK k).2 := by
  induction k with
  | zero => exact ⟨fun ts _ => ⟨.inr rfl, Nat.le_refl _⟩, fun ts _ => ⟨.inr rfl, Nat.le_refl _⟩⟩
  | succ k ih => exact ⟨inv_level (inv_one ih.1 ih.2) 5 (by omega), inv_one ih.1 ih.2⟩

theorem all_nil {P : St → Prop} : ∀ s ∈ ([] : List St), P s := by intro s h; simp at h
theorem inv_stmt {e : Rd Ex} {b : Rd (List St)} (he : Inv Ex.size WFx e) (hb : Inv (fun l => sumOf St.size l + 1) (AllP WFs) b) : Inv St.size WFs (stmtS e b) := by
  intro ts hw
  unfold stmtS
  split
  · rename_i h
    have hl := isSign_len h
    refine fine_name hw.tail (by omega) fun hn hw1 h1 => ?_
    refine fine_must hw1 (by omega) fun hw2 h2 => ?_
    refine (he _ hw2).bind (by omega) fun x r hx hr h3 => ?_
    refine fine_must hr (by omega) fun hw3 h4 => ?_
    exact ⟨by simp [St.size, St.sizes, Ex.sizes]; simp at h4; omega, .let_ _ _ _ hn hx, hw3⟩
  split
  · rename_i h
    have hl := isSign_len h
    refine (he _ hw.tail).bind (by omega) fun x r hx hr h3 => ?_
    refine (hb _ hr).bind (by omega) fun bd r2 hbd hr2 h4 => ?_
    split
    · rename_i h5
      have h6 := isSign_len h5
      refine (hb _ hr2.tail).bind (by omega) fun el r3 hel hr3 h7 => ?_
      exact ⟨by simp [St.size, St.sizes_sum, Ex.sizes]; simp at h4 h7; omega, .if_ _ _ _ _ hx hbd hel, hr3⟩
    · exact ⟨by simp [St.size, St.sizes_sum, sumOf, Ex.sizes]; omega, .if_ _ _ _ _ hx hbd all_nil, hr2⟩
  split
  · rename_i h
    have hl := isSign_len h
    refine fine_name hw.tail (by omega) fun hn hw1 h1 => ?_
    refine fine_must hw1 (by omega) fun hw2 h2 => ?_
    refine (he _ hw2).bind (by omega) fun x r hx hr h3 => ?_
    refine fine_must hr (by omega) fun hw3 h4 => ?_
    refine (he _ hw3).bind (by omega) fun y r2 hy hr2 h5 => ?_
    refine (hb _ hr2).bind (by omega) fun bd r3 hbd hr3 h6 => ?_
    exact ⟨by simp [St.size, St.sizes, St.sizes_sum, Ex.sizes]; omega, .for_ _ _ _ _ _ hn hx hy hbd, hr3⟩
  split
  · rename_i h
    have hl := isSign_len h
    split
    · rename_i h1
      have h2 := isSign_len h1
      exact ⟨by simp [St.size, St.sizes, Ex.sizes]; simp at h2 hl; omega, .ret0 _, hw.tail.tail⟩
    · refine (he _ hw.tail).bind (by omega) fun x r hx hr h3 => ?_
      refine fine_must hr (by omega) fun hw3 h4 => ?_
      exact ⟨by simp [St.size, St.sizes, Ex.sizes]; simp at h4; omega, .ret1 _ _ hx, hw3⟩
  split
  · rename_i h
    have hl := isSign_len h
    refine fine_must hw.tail (by omega) fun hw1 h1 => ?_
    refine (he _ hw1).bind (by omega) fun x r hx hr h3 => ?_
    refine fine_must hr (by omega) fun hw3 h4 => ?_
    refine (he _ hw3).bind (by omega) fun y r2 hy hr2 h5 => ?_
    refine fine_must hr2 (by omega) fun hw4 h6 => ?_
    refine fine_must hw4 (by omega) fun hw5 h7 => ?_
    exact ⟨by simp [St.size, St.sizes, Ex.sizes]; simp at h7 h6; omega, .put _ _ _ hx hy, hw5⟩
  split
  · rename_i h
    have hl := isSign_len h
    refine fine_must hw.tail (by omega) fun hw1 h1 => ?_
    refine (he _ hw1).bind (by omega) fun x r hx hr h3 => ?_
    refine fine_must hr (by omega) fun hw4 h6 => ?_
    refine fine_must hw4 (by omega) fun hw5 h7 => ?_
    exact ⟨by simp [St.size, St.sizes, Ex.sizes]; simp at h7 h6; omega, .del _ _ hx, hw5⟩
  split
  · rename_i h
    simp only [Bool.and_eq_true] at h
    have hl := isName_len h.1
    have hl2 := isSign_len h.2
    refine (he _ hw.tail.tail).bind (by omega) fun x r hx hr h3 => ?_
    refine fine_must hr (by omega) fun hw5 h7 => ?_
    exact ⟨by simp [St.size, St.sizes, Ex.sizes]; simp at h7; omega, .set_ _ _ _ (name_ok hw h.1) hx, hw5⟩
  · refine (he _ hw).bind (by omega) fun x r hx hr h3 => ?_
    refine fine_must hr (by omega) fun hw5 h7 => ?_
    exact ⟨by simp [St.size, St.sizes, Ex.sizes]; simp at h7; omega, .do_ _ _ hx, hw5⟩
theorem inv_blockGo {s : Rd St} (hs : Inv St.size WFs s) : ∀ (f : Nat) (acc : List St) (ts : List Tok), Wf ts → AllP WFs acc → ts.length < f → Fine (sumOf St.size acc + ts.length) (fun l => sumOf St.size l + 1) (AllP WFs) (blockGo s f acc ts) := by
  intro f
  induction f with
  | zero => intro acc ts _ _ h; omega
  | succ f ih =>
    intro acc ts hw hp hf
    unfold blockGo
    split
    · rename_i h
      exact ⟨by have := isSign_len h; dsimp only; omega, hp, hw.tail⟩
    · refine (hs ts hw).bind (by omega) fun x r hx hr hl => ?_
      have := x.size_pos
      refine (ih (acc ++ [x]) r hr (hp.snoc hx) (by omega)).mono ?_
      rw [sumOf_append]
      simp only [sumOf]
      omega
theorem inv_block {s : Rd St} (hs : Inv St.size WFs s) : Inv (fun l => sumOf St.size l + 1) (AllP WFs) (blockS s true) := by
  intro ts hw
  unfold blockS
  split
  · rename_i h
    have hl := isSign_len h
    rw [if_pos rfl]
    exact (inv_blockGo hs _ [] ts.tail hw.tail (by intro x hx; simp at hx) (by omega)).mono (by simp only [sumOf]; omega)
  · exact ⟨.inl rfl, Nat.le_refl _⟩
theorem inv_BK (k : Nat) : Inv (fun l => sumOf St.size l + 1) (AllP WFs) (BK k) := by
  induction k with
  | zero =>
    intro ts hw
    unfold BK blockS
    split
    · exact ⟨.inr rfl, Nat.le_refl _⟩
    · exact ⟨.inl rfl, Nat.le_refl _⟩
  | succ k ih => exact inv_block (inv_stmt (inv_EK k).1 ih)
theorem inv_typ : Inv (fun _ => 1) (fun t => t = 1 ∨ t = 2 ∨ t = 3) typS := by
  intro ts hw
  unfold typS
  split
  · rename_i h
    exact ⟨by have := isSign_len h; dsimp only; omega, .inl rfl, hw.tail⟩
  · split
    · rename_i h
      exact ⟨by have := isSign_len h; dsimp only; omega, .inr (.inl rfl), hw.tail⟩
    · exact fine_must hw (by omega) fun hw1 h1 => ⟨by dsimp only; omega, .inr (.inr rfl), hw1⟩
theorem inv_param : Inv (fun _ => 1) Pa.wf paramS := by
  intro ts hw
  unfold paramS
  refine fine_name hw (by omega) fun hn hw1 h1 => ?_
  refine fine_must hw1 (by omega) fun hw2 h2 => ?_
  refine (inv_typ _ hw2).bind (by omega) fun t r ht hr hl => ?_
  exact ⟨by dsimp only; omega, ⟨hn, ht⟩, hr⟩
theorem sum_one {α : Type} (l : List α) : sumOf (fun _ => 1) l = l.length := by
  induction l with
  | nil => rfl
  | cons x l ih => simp [sumOf, ih]; omega
theorem inv_fun : Inv Fu.size Fu.wf funS := by
  intro ts hw
  unfold funS
  refine fine_must hw (by omega) fun hw1 h1 => ?_
  refine fine_name hw1 (by omega) fun hn hw2 h2 => ?_
  refine fine_must hw2 (by omega) fun hw3 h3 => ?_
  refine (inv_list inv_param (fun _ => Nat.le_refl _) _ hw3).bind (by omega) fun ps r hps hr hl => ?_
  rw [sum_one] at hl
  split
  · rename_i h
    have h4 := isSign_len h
    refine (inv_typ _ hr.tail).bind (by omega) fun t r2 ht hr2 hl2 => ?_
    refine (inv_BK 32 _ hr2).bind (by omega) fun bd r3 hbd hr3 hl3 => ?_
    exact ⟨by simp [Fu.size, St.sizes_sum]; omega, ⟨hn, hps, (by dsimp only; omega), hbd⟩, hr3⟩
  · refine (inv_BK 32 _ hr).bind (by omega) fun bd r3 hbd hr3 hl3 => ?_
    exact ⟨by simp [Fu.size, St.sizes_sum]; omega, ⟨hn, hps, (by dsimp only; omega), hbd⟩, hr3⟩
theorem Fu.size_pos (f : Fu) : 1 ≤ f.size := by unfold Fu.size; omega
theorem inv_progGo : ∀ (f : Nat) (acc : List Fu) (ts : List Tok), Wf ts → AllP Fu.wf acc → ts.length < f → Fine (sumOf Fu.size acc + ts.length) (sumOf Fu.size) (AllP Fu.wf) (progGo f acc ts) := by
  intro f
  induction f with
  | zero => intro acc ts _ _ h; omega
  | succ f ih =>
    intro acc ts hw hp hf
    cases ts with
    | nil => exact ⟨Nat.le_refl _, hp, hw⟩
    | cons t r =>
      show Fine _ _ _ ((funS (t :: r)).bind fun x r => progGo f (acc ++ [x]) r)
      refine (inv_fun _ hw).bind (by omega) fun x q hx hq hl => ?_
      have := x.size_pos
      refine (ih (acc ++ [x]) q hq (hp.snoc hx) (by omega)).mono ?_
      rw [sumOf_append]
      simp only [sumOf]
      omega
theorem inv_prog : Inv (sumOf Fu.size) (AllP Fu.wf) progS := by
  intro ts hw
  have := inv_progGo (ts.length + 1) [] ts hw (by intro x hx; simp at hx) (by omega)
  rw [sumOf, Nat.zero_add] at this
  exact this
end Go.Proofs.YtaehlakefgnfmaaGreatDoor
/-
  DERIVED. PLAIN: the parser of programs where more tokens stand behind: 't' begins with a sign that nothing within a function asks for but a block's end. No program in sight.
-/
namespace Go.Proofs.YtaehlakefgnfmaaGreatDoor
set_option linter.unusedSimpArgs false
set_option linter.unusedVariables false

/-- Nothing is left, or there is an error. -/
def Spent {α : Type} : Res α → Prop
  | .ok _ r => r = []
  | .err _ _ => True
/-- R' is R where t stands behind. -/
def More {α : Type} (t : List Tok) : Res α → Res α → Prop
  | .ok a r, R' => R' = .ok a (r ++ t)
  | .err e r, R' => (r ≠ [] → R' = .err e (r ++ t)) ∧ (r = [] → t.length = 1 → Spent R')
theorem wf_nil : Wf [] := by intro t h; simp at h
end Go.Proofs.YtaehlakefgnfmaaGreatDoor
/-
  DERIVED. PLAIN: the parser of programs and places: with other places in the tokens come the same things with other places. No program in sight.
-/
namespace Go.Proofs.YtaehlakefgnfmaaGreatDoor
set_option linter.unusedSimpArgs false
set_option linter.unusedVariables false

/-- A token without its place. -/
def Tok.st (t : Tok) : Tok := { t with place := 0 }
mutual
def Ex.st : Ex → Ex
  | .mk op num text kids _ => .mk op num text (Ex.sts kids) 0
def Ex.sts : List Ex → List Ex
  | [] => []
  | x :: l => x.st :: Ex.sts l
end
mutual
def St.st : St → St
  | .mk op text es b l _ => .mk op text (Ex.sts es) (St.sts b) (St.sts l) 0
def St.sts : List St → List St
  | [] => []
  | x :: l => x.st :: St.sts l
end
theorem Ex.sts_map (l : List Ex) : Ex.sts l = l.map Ex.st := by
  induction l with
  | nil => rfl
  | cons x l ih => simp [Ex.sts, ih]
theorem St.sts_map (l : List St) : St.sts l = l.map St.st := by
  induction l with
  | nil => rfl
  | cons x l ih => simp [St.sts, ih]
def Fu.st (f : Fu) : Fu := ⟨f.name, f.params, f.result, St.sts f.body, 0⟩

def Res.map {α : Type} (m : α → α) : Res α → Res α
  | .ok a r => .ok (m a) (r.map Tok.st)
  | .err e r => .err e (r.map Tok.st)
end Go.Proofs.YtaehlakefgnfmaaGreatDoor
/-
  DERIVED. The tokens of two texts with a line's end between: in plain Lean.
-/
set_option linter.unusedSimpArgs false
set_option linter.unusedVariables false
namespace Go.Proofs.YtaehlakefgnfmaaGreatDoor

/-- A token so many places on. -/
def Tok.on (d : Nat) (t : Tok) : Tok := ⟨t.kind, t.text, t.num, t.place + d⟩
theorem lex_short {s : List UInt8} {ts : List Tok} (h : lex s = .ok ts) : s.length ≤ 4096 := by
  unfold lex at h
  split at h
  · cases h
  · omega
end Go.Proofs.YtaehlakefgnfmaaGreatDoor
/-
  DERIVED. PLAIN: functions of one text and of another one behind are those of both. No program in sight.
-/
namespace Go.Proofs.YtaehlakefgnfmaaGreatDoor
set_option linter.unusedSimpArgs false
set_option linter.unusedVariables false

theorem numFrom_le : ∀ (l : List UInt8) (n m : Nat), n ≤ maxNum → numFrom n l = some m → m ≤ maxNum := by
  intro l
  induction l with
  | nil => intro n m hn h; simp [numFrom] at h; omega
  | cons c l ih =>
    intro n m hn h
    unfold numFrom at h
    split at h
    · cases h
    · rename_i hc
      refine ih _ _ ?_ h
      have h1 : c.toNat - 48 < 256 := by have := c.toNat_lt; omega
      unfold maxNum at *
      omega
/-- The tokens of a text are such as a text may have. -/
theorem nextT_wf {l : List UInt8} {b : Bit} (h : nextT l = .ok b) (pos : Nat) : (⟨b.kind, b.text, b.num, pos⟩ : Tok).wf := by
  cases l with
  | nil => simp [nextT] at h
  | cons c r =>
    simp only [nextT] at h
    split at h
    · rename_i hl
      have hn := spanLen_take isNameByte (c :: r)
      split at h
      · rename_i hw
        cases h
        exact .inr (.inr (.inr ⟨rfl, .inr hw, rfl⟩))
      · rename_i hw
        split at h
        · cases h
        · rename_i h16
          cases h
          refine .inl ⟨rfl, ⟨⟨c, (r.take (spanLen isNameByte r)), ?_, hl⟩, hn, by simpa using hw, by simp only; omega⟩, rfl⟩
          simp [spanLen, isNameByte, hl]
    · split at h
      · split at h
        · cases h
        · rename_i n hnum
          cases h
          exact .inr (.inl ⟨rfl, rfl, numFrom_le _ _ _ (by unfold maxNum; omega) hnum⟩)
      · split at h
        · split at h
          · cases h
          · split at h
            · cases h
            · rename_i h64
              split at h
              · cases h
              · rename_i h64
                cases h
                refine .inr (.inr (.inl ⟨rfl, ⟨spanLen_take isTextByte r, ?_⟩, rfl⟩))
                rw [List.length_take]; omega
        · split at h
          · cases h
          · rename_i he
            cases h
            refine .inr (.inr (.inr ⟨rfl, .inl ?_, rfl⟩))
            unfold signAt at he ⊢
            split
            · rename_i h2; exact h2
            · rename_i h2
              rw [if_neg h2] at he
              split
              · rename_i h1; exact h1
              · rename_i h1; rw [if_neg h1] at he; simp at he
theorem lexGo_wf' : ∀ (f pos : Nat) (l : List UInt8) (cnt : Nat) (ts : List Tok), lexGo f pos l cnt = .ok ts → cnt ≤ 2048 → Wf ts ∧ cnt + ts.length ≤ 2048 := by
  intro f
  induction f with
  | zero => intro pos l cnt ts h hc; simp [lexGo] at h; subst h; exact ⟨wf_nil, by simpa using hc⟩
  | succ f ih =>
    intro pos l cnt ts h hc
    cases l with
    | nil => simp [lexGo] at h; subst h; exact ⟨wf_nil, by simpa using hc⟩
    | cons c r =>
      simp only [lexGo] at h
      cases hb : nextT (c :: r) with
      | error e => rw [hb] at h; cases h
      | ok b =>
        rw [hb] at h
        simp only [] at h
        split at h
        · cases h
        · split at h
          · rename_i us hu
            cases h
            obtain ⟨h1, h2⟩ := ih _ _ _ _ hu (by omega)
            refine ⟨?_, by simp; omega⟩
            intro t ht
            rcases List.mem_cons.1 ht with rfl | ht
            · exact nextT_wf hb _
            · exact h1 t ht
          · cases h
theorem lex_wf {s : List UInt8} {ts : List Tok} (h : lex s = .ok ts) : Wf ts ∧ ts.length ≤ 2048 := by
  unfold lex at h
  split at h
  · cases h
  · have := lexGo_wf' _ _ _ _ _ h (by omega)
    exact ⟨this.1, by omega⟩
end Go.Proofs.YtaehlakefgnfmaaGreatDoor
