/-
  DERIVED. PLAIN: the parser of programs, over tokens. No program in sight.
-/
import Derived.Test.YtaehlakefgnfmaaDoorLex
namespace Go.Proofs.YtaehlakefgnfmaaDoor
set_option linter.unusedSimpArgs false
set_option linter.unusedVariables false

/-- An expression. -/
inductive Ex where
  | mk (op num : Nat) (text : List UInt8) (kids : List Ex) (at_ : Nat)
/-- A statement. -/
inductive St where
  | mk (op : Nat) (text : List UInt8) (exprs : List Ex) (body els : List St) (at_ : Nat)
/-- A parameter. -/
structure Pa where
  name : List UInt8
  type : Nat
/-- A function. -/
structure Fu where
  name : List UInt8
  params : List Pa
  result : Nat
  body : List St
  at_ : Nat
/-- What a reading comes to: a thing and the tokens behind it; or an error, and the tokens that stood ahead of it. -/
inductive Res (α : Type) where
  | ok (a : α) (rest : List Tok)
  | err (e : Nat) (rest : List Tok)
def Res.bind {α β : Type} : Res α → (α → List Tok → Res β) → Res β
  | .ok a r, k => k a r
  | .err e r, _ => .err e r
/-- A reading. -/
abbrev Rd (α : Type) := List Tok → Res α

def isSign (s : List UInt8) : List Tok → Bool
  | [] => false
  | t :: _ => t.kind == 4 && t.text == s
def isName : List Tok → Bool
  | [] => false
  | t :: _ => t.kind == 1
def headText : List Tok → List UInt8
  | [] => []
  | t :: _ => t.text
def headPlace : List Tok → Nat
  | [] => 0
  | t :: _ => t.place
def placeOf (e : Nat) : List Tok → Nat
  | [] => e
  | t :: _ => t.place
def must {α : Type} (s : List UInt8) (ts : List Tok) (k : List Tok → Res α) : Res α := if isSign s ts then k ts.tail else .err 41 ts
def name {α : Type} (ts : List Tok) (k : List UInt8 → List Tok → Res α) : Res α := if isName ts then k (headText ts) ts.tail else .err 41 ts

/-- Things with commas between, up to a bracket. -/
def listGo {α : Type} (one : Rd α) : Nat → Bool → List α → Rd (List α)
  | 0, _, _, ts => .err 0 ts
  | f + 1, first, acc, ts =>
    if isSign [41] ts then .ok acc ts.tail
    else if first then (one ts).bind fun a r => listGo one f false (acc ++ [a]) r
    else must [44] ts fun ts' => (one ts').bind fun a r => listGo one f false (acc ++ [a]) r
def listS {α : Type} (one : Rd α) : Rd (List α) := fun ts => listGo one (ts.length + 1) true [] ts

/-- An expression in brackets. -/
def innerS (e : Rd Ex) : Rd Ex := fun ts => must [40] ts fun ts => (e ts).bind fun x r => must [41] r fun r => .ok x r
/-- What has no sign. -/
def wordsS (e : Rd Ex) : Rd Ex := fun ts =>
  if isSign [116, 114, 117, 101] ts then .ok (.mk 2 1 [] [] (headPlace ts)) ts.tail
  else if isSign [102, 97, 108, 115, 101] ts then .ok (.mk 2 0 [] [] (headPlace ts)) ts.tail
  else if isSign [40] ts then innerS e ts
  else if isSign [103, 101, 116] ts then (innerS e ts.tail).bind fun x r => .ok (.mk 8 0 [] [x] (headPlace ts)) r
  else if isSign [104, 97, 115] ts then (innerS e ts.tail).bind fun x r => .ok (.mk 9 0 [] [x] (headPlace ts)) r
  else must [108, 101, 110] ts fun r => (innerS e r).bind fun x r => .ok (.mk 10 0 [] [x] (headPlace ts)) r
def primaryS (e : Rd Ex) : Rd Ex
  | [] => .err 41 []
  | t :: r =>
    if t.kind = 2 then .ok (.mk 1 t.num [] [] t.place) r
    else if t.kind = 3 then .ok (.mk 3 0 t.text [] t.place) r
    else if t.kind = 1 then
      if isSign [40] r then (listS e r.tail).bind fun ks r => .ok (.mk 5 0 t.text ks t.place) r
      else .ok (.mk 4 0 t.text [] t.place) r
    else wordsS e (t :: r)
/-- What has signs ahead, or none; o: what has one sign ahead already. -/
def oneS (e o : Rd Ex) : Rd Ex := fun ts =>
  if isSign [45] ts then (o ts.tail).bind fun x r => .ok (.mk 7 0 [45] [x] (headPlace ts)) r
  else if isSign [33] ts then (o ts.tail).bind fun x r => .ok (.mk 7 0 [33] [x] (headPlace ts)) r
  else primaryS e ts
/-- The signs of a level, the loosest first. -/
def levelSigns : Nat → List (List UInt8)
  | 0 => [[124, 124]]
  | 1 => [[38, 38]]
  | 2 => [[61, 61], [33, 61], [60], [60, 61], [62], [62, 61]]
  | 3 => [[43], [45]]
  | _ => [[42], [47], [37]]
def isOp (n : Nat) : List Tok → Bool
  | [] => false
  | t :: _ => t.kind == 4 && (levelSigns n).contains t.text
def levelGo (next : Rd Ex) (n : Nat) : Nat → Ex → Rd Ex
  | 0, _, ts => .err 0 ts
  | f + 1, x, ts =>
    if isOp n ts then (next ts.tail).bind fun y r =>
      if n = 2 then .ok (.mk 6 0 (headText ts) [x, y] (headPlace ts)) r
      else levelGo next n f (.mk 6 0 (headText ts) [x, y] (headPlace ts)) r
    else .ok x ts
/-- What is of a level: m = 5 - n. -/
def levelS (one : Rd Ex) : Nat → Rd Ex
  | 0 => one
  | m + 1 => fun ts => (levelS one m ts).bind fun x r => levelGo (levelS one m) (4 - m) (r.length + 1) x r
/-- An expression, and what has signs ahead, so deep: k = 33 - d; if it is not too deep. -/
def EK : Nat → Rd Ex × Rd Ex
  | 0 => (fun ts => .err 42 ts, fun ts => .err 42 ts)
  | k + 1 => (levelS (oneS (EK k).1 (EK k).2) 5, oneS (EK k).1 (EK k).2)

/-- A statement. -/
def stmtS (e : Rd Ex) (b : Rd (List St)) : Rd St := fun ts =>
  if isSign [108, 101, 116] ts then name ts.tail fun nm r => must [61] r fun r => (e r).bind fun x r => must [59] r fun r => .ok (.mk 1 nm [x] [] [] (headPlace ts)) r
  else if isSign [105, 102] ts then (e ts.tail).bind fun x r => (b r).bind fun bd r =>
    if isSign [101, 108, 115, 101] r then (b r.tail).bind fun el r => .ok (.mk 3 [] [x] bd el (headPlace ts)) r
    else .ok (.mk 3 [] [x] bd [] (headPlace ts)) r
  else if isSign [102, 111, 114] ts then name ts.tail fun nm r => must [61] r fun r => (e r).bind fun x r => must [116, 111] r fun r => (e r).bind fun y r => (b r).bind fun bd r => .ok (.mk 4 nm [x, y] bd [] (headPlace ts)) r
  else if isSign [114, 101, 116, 117, 114, 110] ts then
    if isSign [59] ts.tail then .ok (.mk 5 [] [] [] [] (headPlace ts)) ts.tail.tail
    else (e ts.tail).bind fun x r => must [59] r fun r => .ok (.mk 5 [] [x] [] [] (headPlace ts)) r
  else if isSign [112, 117, 116] ts then must [40] ts.tail fun r => (e r).bind fun x r => must [44] r fun r => (e r).bind fun y r => must [41] r fun r => must [59] r fun r => .ok (.mk 6 [] [x, y] [] [] (headPlace ts)) r
  else if isSign [100, 101, 108] ts then must [40] ts.tail fun r => (e r).bind fun x r => must [41] r fun r => must [59] r fun r => .ok (.mk 7 [] [x] [] [] (headPlace ts)) r
  else if isName ts && isSign [61] ts.tail then (e ts.tail.tail).bind fun x r => must [59] r fun r => .ok (.mk 2 (headText ts) [x] [] [] (headPlace ts)) r
  else (e ts).bind fun x r => must [59] r fun r => .ok (.mk 8 [] [x] [] [] (headPlace ts)) r
def blockGo (s : Rd St) : Nat → List St → Rd (List St)
  | 0, _, ts => .err 0 ts
  | f + 1, acc, ts => if isSign [125] ts then .ok acc ts.tail else (s ts).bind fun x r => blockGo s f (acc ++ [x]) r
/-- A block; ok: it is not too deep. -/
def blockS (s : Rd St) (ok : Bool) : Rd (List St) := fun ts =>
  if isSign [123] ts then if ok then blockGo s (ts.length + 1) [] ts.tail else .err 42 ts else .err 41 ts
/-- A block so deep: k = 33 - d. -/
def BK : Nat → Rd (List St)
  | 0 => blockS (fun ts => .err 0 ts) false
  | k + 1 => blockS (stmtS (EK k).1 (BK k)) true
/-- A type. -/
def typS : Rd Nat := fun ts =>
  if isSign [105, 110, 116] ts then .ok 1 ts.tail
  else if isSign [98, 111, 111, 108] ts then .ok 2 ts.tail
  else must [98, 121, 116, 101, 115] ts fun r => .ok 3 r
def paramS : Rd Pa := fun ts => name ts fun nm r => must [58] r fun r => (typS r).bind fun t r => .ok ⟨nm, t⟩ r
/-- A function. -/
def funS : Rd Fu := fun ts => must [102, 110] ts fun r => name r fun nm r => must [40] r fun r => (listS paramS r).bind fun ps r =>
  if isSign [58] r then (typS r.tail).bind fun t r => (BK 32 r).bind fun bd r => .ok ⟨nm, ps, t, bd, headPlace ts⟩ r
  else (BK 32 r).bind fun bd r => .ok ⟨nm, ps, 0, bd, headPlace ts⟩ r
def progGo : Nat → List Fu → Rd (List Fu)
  | 0, _, ts => .err 0 ts
  | f + 1, acc, ts => match ts with
    | [] => .ok acc []
    | t :: r => (funS (t :: r)).bind fun x r => progGo f (acc ++ [x]) r
def progS : Rd (List Fu) := fun ts => progGo (ts.length + 1) [] ts
/-- The program that a text is; or an error, and where. -/
def parse (s : List UInt8) : Except (Nat × Nat) (List Fu) :=
  match lex s with
  | .error e => .error e
  | .ok ts => match progS ts with
    | .ok p _ => .ok p
    | .err e r => .error (e, placeOf s.length r)
end Go.Proofs.YtaehlakefgnfmaaDoor
