/-
  DERIVED. PLAIN: the parser of programs and places: with other places in the tokens come the same things with other places. No program in sight.
-/
import Derived.Test.YtaehlakefgnfmaaDoorInv
namespace Go.Proofs.YtaehlakefgnfmaaDoor
set_option linter.unusedSimpArgs false
set_option linter.unusedVariables false

/-- A token without its place. -/
def Tok.st (t : Tok) : Tok := { t with place := 0 }
mutual
def Ex.st : Ex → Ex
  | .mk op num text kids _ => .mk op num text (Ex.sts kids) 0
def Ex.sts : List Ex → List Ex
  | [] => []
  | x :: l => x.st :: Ex.sts l
end
mutual
def St.st : St → St
  | .mk op text es b l _ => .mk op text (Ex.sts es) (St.sts b) (St.sts l) 0
def St.sts : List St → List St
  | [] => []
  | x :: l => x.st :: St.sts l
end
theorem Ex.sts_map (l : List Ex) : Ex.sts l = l.map Ex.st := by
  induction l with
  | nil => rfl
  | cons x l ih => simp [Ex.sts, ih]
theorem St.sts_map (l : List St) : St.sts l = l.map St.st := by
  induction l with
  | nil => rfl
  | cons x l ih => simp [St.sts, ih]
def Fu.st (f : Fu) : Fu := ⟨f.name, f.params, f.result, St.sts f.body, 0⟩

def Res.map {α : Type} (m : α → α) : Res α → Res α
  | .ok a r => .ok (m a) (r.map Tok.st)
  | .err e r => .err e (r.map Tok.st)
/-- A reading that does not look at places. -/
def Nat_ {α : Type} (m : α → α) (f : Rd α) : Prop := ∀ ts, f (ts.map Tok.st) = (f ts).map m
theorem nat_bind {α β : Type} {m : α → α} {m' : β → β} {R R' : Res α} {k k' : α → List Tok → Res β} (h : R' = R.map m) (hk : ∀ a r, k' (m a) (r.map Tok.st) = (k a r).map m') : R'.bind k' = (R.bind k).map m' := by
  subst h
  cases R with
  | ok a r => exact hk a r
  | err e r => rfl
theorem isSign_st (s : List UInt8) (ts : List Tok) : isSign s (ts.map Tok.st) = isSign s ts := by cases ts <;> rfl
theorem isName_st (ts : List Tok) : isName (ts.map Tok.st) = isName ts := by cases ts <;> rfl
theorem isOp_st (n : Nat) (ts : List Tok) : isOp n (ts.map Tok.st) = isOp n ts := by cases ts <;> rfl
theorem headText_st (ts : List Tok) : headText (ts.map Tok.st) = headText ts := by cases ts <;> rfl
theorem headPlace_st (ts : List Tok) : headPlace (ts.map Tok.st) = 0 := by cases ts <;> rfl
theorem tail_st (ts : List Tok) : (ts.map Tok.st).tail = ts.tail.map Tok.st := by cases ts <;> rfl
theorem nat_must {β : Type} {m : β → β} (s : List UInt8) (ts : List Tok) {k k' : List Tok → Res β} (hk : ∀ r, k' (r.map Tok.st) = (k r).map m) : must s (ts.map Tok.st) k' = (must s ts k).map m := by
  unfold must
  rw [isSign_st, tail_st]
  split
  · exact hk _
  · rfl
theorem nat_name {β : Type} {m : β → β} (ts : List Tok) {k k' : List UInt8 → List Tok → Res β} (hk : ∀ n r, k' n (r.map Tok.st) = (k n r).map m) : name (ts.map Tok.st) k' = (name ts k).map m := by
  unfold name
  rw [isName_st, tail_st, headText_st]
  split
  · exact hk _ _
  · rfl
theorem nat_listGo {α : Type} {one : Rd α} {m : α → α} (h1 : Nat_ m one) : ∀ (f : Nat) (first : Bool) (acc : List α) (ts : List Tok), listGo one f first (acc.map m) (ts.map Tok.st) = (listGo one f first acc ts).map (List.map m) := by
  intro f
  induction f with
  | zero => intro first acc ts; rfl
  | succ f ih =>
    intro first acc ts
    unfold listGo
    rw [isSign_st]
    split
    · rw [tail_st]; rfl
    · have step : ∀ us : List Tok, ((one (us.map Tok.st)).bind fun a r => listGo one f false (acc.map m ++ [a]) r) = ((one us).bind fun a r => listGo one f false (acc ++ [a]) r).map (List.map m) := by
        intro us
        refine nat_bind (h1 us) fun a r => ?_
        rw [← ih, List.map_append]; rfl
      split
      · exact step ts
      · exact nat_must _ ts fun r => step r
theorem nat_list {α : Type} {one : Rd α} {m : α → α} (h1 : Nat_ m one) : Nat_ (List.map m) (listS one) := by
  intro ts
  unfold listS
  rw [List.length_map]
  exact nat_listGo h1 _ true [] ts
theorem nat_inner {e : Rd Ex} (he : Nat_ Ex.st e) : Nat_ Ex.st (innerS e) := fun ts =>
  nat_must _ ts fun r => nat_bind (he r) fun x r => nat_must _ r fun r => rfl
theorem nat_words {e : Rd Ex} (he : Nat_ Ex.st e) : Nat_ Ex.st (wordsS e) := by
  intro ts
  unfold wordsS
  simp only [isSign_st, headPlace_st, tail_st]
  have inner : ∀ op us, ((innerS e (us.map Tok.st)).bind fun x r => .ok (.mk op 0 [] [x] 0) r) = ((innerS e us).bind fun x r => Res.ok (.mk op 0 [] [x] (headPlace ts)) r).map Ex.st := by
    intro op us
    exact nat_bind (nat_inner he us) fun x r => rfl
  split
  · rfl
  split
  · rfl
  split
  · exact nat_inner he ts
  split
  · exact inner 8 _
  split
  · exact inner 9 _
  · exact nat_must _ ts fun r => inner 10 r
theorem nat_primary {e : Rd Ex} (he : Nat_ Ex.st e) : Nat_ Ex.st (primaryS e) := by
  intro ts
  cases ts with
  | nil => rfl
  | cons t r =>
    simp only [List.map_cons]
    rw [primaryS_cons, primaryS_cons]
    have e1 : t.st.kind = t.kind := rfl
    simp only [isSign_st, tail_st, e1]
    by_cases h2 : t.kind = 2
    · simp only [if_pos h2]; rfl
    simp only [if_neg h2]
    by_cases h3 : t.kind = 3
    · simp only [if_pos h3]; rfl
    simp only [if_neg h3]
    by_cases h1 : t.kind = 1
    · simp only [if_pos h1]
      split
      · refine nat_bind (nat_list he r.tail) fun ks q => ?_
        simp [Res.map, Ex.st, Ex.sts_map, Tok.st]
      · rfl
    simp only [if_neg h1]
    exact nat_words he (t :: r)
theorem nat_one {e o : Rd Ex} (he : Nat_ Ex.st e) (ho : Nat_ Ex.st o) : Nat_ Ex.st (oneS e o) := by
  intro ts
  unfold oneS
  simp only [isSign_st, headPlace_st, tail_st]
  split
  · exact nat_bind (ho _) fun x r => rfl
  split
  · exact nat_bind (ho _) fun x r => rfl
  · exact nat_primary he ts
theorem nat_levelGo {next : Rd Ex} (hn : Nat_ Ex.st next) (n : Nat) : ∀ (f : Nat) (x : Ex) (ts : List Tok), levelGo next n f x.st (ts.map Tok.st) = (levelGo next n f x ts).map Ex.st := by
  intro f
  induction f with
  | zero => intro x ts; rfl
  | succ f ih =>
    intro x ts
    unfold levelGo
    simp only [isOp_st, headPlace_st, headText_st, tail_st]
    split
    · refine nat_bind (hn _) fun y r => ?_
      split
      · rfl
      · rw [← ih]; rfl
    · rfl
theorem nat_level {one : Rd Ex} (h1 : Nat_ Ex.st one) : ∀ m, Nat_ Ex.st (levelS one m) := by
  intro m
  induction m with
  | zero => exact h1
  | succ m ih =>
    intro ts
    unfold levelS
    refine nat_bind (ih ts) fun x r => ?_
    rw [List.length_map]
    exact nat_levelGo ih _ _ x r
theorem nat_EK (k : Nat) : Nat_ Ex.st (EK k).1 ∧ Nat_ Ex.st (EK k).2 := by
  induction k with
  | zero => exact ⟨fun ts => rfl, fun ts => rfl⟩
  | succ k ih => exact ⟨nat_level (nat_one ih.1 ih.2) 5, nat_one ih.1 ih.2⟩
theorem nat_stmt {e : Rd Ex} {b : Rd (List St)} (he : Nat_ Ex.st e) (hb : Nat_ (List.map St.st) b) : Nat_ St.st (stmtS e b) := by
  intro ts
  unfold stmtS
  simp only [isSign_st, isName_st, headPlace_st, headText_st, tail_st]
  split
  · exact nat_name _ fun nm r => nat_must _ r fun r => nat_bind (he r) fun x r => nat_must _ r fun r => rfl
  split
  · refine nat_bind (he _) fun x r => nat_bind (hb r) fun bd r => ?_
    simp only [isSign_st, tail_st]
    split
    · refine nat_bind (hb _) fun el r => ?_
      simp [Res.map, St.st, St.sts_map, Ex.sts]
    · simp [Res.map, St.st, St.sts_map, St.sts, Ex.sts]
  split
  · refine nat_name _ fun nm r => nat_must _ r fun r => nat_bind (he r) fun x r => nat_must _ r fun r => nat_bind (he r) fun y r => nat_bind (hb r) fun bd r => ?_
    simp [Res.map, St.st, St.sts_map, St.sts, Ex.sts]
  split
  · split
    · rfl
    · exact nat_bind (he _) fun x r => nat_must _ r fun r => rfl
  split
  · exact nat_must _ _ fun r => nat_bind (he r) fun x r => nat_must _ r fun r => nat_bind (he r) fun y r => nat_must _ r fun r => nat_must _ r fun r => rfl
  split
  · exact nat_must _ _ fun r => nat_bind (he r) fun x r => nat_must _ r fun r => nat_must _ r fun r => rfl
  split
  · exact nat_bind (he _) fun x r => nat_must _ r fun r => rfl
  · exact nat_bind (he _) fun x r => nat_must _ r fun r => rfl
theorem nat_blockGo {s : Rd St} (hs : Nat_ St.st s) : ∀ (f : Nat) (acc : List St) (ts : List Tok), blockGo s f (acc.map St.st) (ts.map Tok.st) = (blockGo s f acc ts).map (List.map St.st) := by
  intro f
  induction f with
  | zero => intro acc ts; rfl
  | succ f ih =>
    intro acc ts
    unfold blockGo
    simp only [isSign_st, tail_st]
    split
    · rfl
    · refine nat_bind (hs ts) fun x r => ?_
      rw [← ih, List.map_append]; rfl
theorem nat_block {s : Rd St} (hs : Nat_ St.st s) (ok : Bool) : Nat_ (List.map St.st) (blockS s ok) := by
  intro ts
  unfold blockS
  simp only [isSign_st, tail_st, List.length_map]
  split
  · split
    · exact nat_blockGo hs _ [] _
    · rfl
  · rfl
theorem nat_BK (k : Nat) : Nat_ (List.map St.st) (BK k) := by
  induction k with
  | zero => exact nat_block_false
  | succ k ih => exact nat_block (nat_stmt (nat_EK k).1 ih) true
  where
  nat_block_false : Nat_ (List.map St.st) (BK 0) := by
    intro ts
    unfold BK blockS
    simp only [isSign_st, tail_st]
    split
    · rfl
    · rfl
theorem nat_typ : Nat_ (fun t => t) typS := by
  intro ts
  unfold typS
  simp only [isSign_st, tail_st]
  split
  · rfl
  split
  · rfl
  · exact nat_must _ _ fun r => rfl
theorem nat_param : Nat_ (fun p => p) paramS := fun ts => nat_name ts fun nm r => nat_must _ r fun r => nat_bind (nat_typ r) fun t r => rfl
theorem nat_fun : Nat_ Fu.st funS := by
  intro ts
  unfold funS
  simp only [headPlace_st]
  refine nat_must _ _ fun r => nat_name r fun nm r => nat_must _ r fun r => nat_bind (nat_list nat_param r) fun ps r => ?_
  simp only [isSign_st, tail_st]
  split
  · refine nat_bind (nat_typ _) fun t r => nat_bind (nat_BK 32 r) fun bd r => ?_
    simp [Res.map, Fu.st, St.sts_map]
  · refine nat_bind (nat_BK 32 _) fun bd r => ?_
    simp [Res.map, Fu.st, St.sts_map]
theorem nat_progGo : ∀ (f : Nat) (acc : List Fu) (ts : List Tok), progGo f (acc.map Fu.st) (ts.map Tok.st) = (progGo f acc ts).map (List.map Fu.st) := by
  intro f
  induction f with
  | zero => intro acc ts; rfl
  | succ f ih =>
    intro acc ts
    cases ts with
    | nil => rfl
    | cons t r =>
      show ((funS ((t :: r).map Tok.st)).bind fun x r => progGo f (acc.map Fu.st ++ [x]) r) = _
      refine nat_bind (nat_fun (t :: r)) fun x q => ?_
      rw [← ih, List.map_append]; rfl
theorem nat_prog : Nat_ (List.map Fu.st) progS := by
  intro ts
  unfold progS
  rw [List.length_map]
  exact nat_progGo _ [] ts
end Go.Proofs.YtaehlakefgnfmaaDoor
