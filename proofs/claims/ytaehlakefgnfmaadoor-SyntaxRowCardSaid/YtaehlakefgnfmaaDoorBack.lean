/-
  DERIVED. PLAIN: what is shown of a program is parsed as that program, or it is too deep. No program in sight.
-/
import Derived.Test.YtaehlakefgnfmaaDoorShowP
namespace Go.Proofs.YtaehlakefgnfmaaDoor
set_option linter.unusedSimpArgs false
set_option linter.unusedVariables false

/-- It is a, and r is left; or it is too deep. -/
def Gets {α : Type} (R : Res α) (a : α) (r : List Tok) : Prop := R = .ok a r ∨ ∃ q, R = .err 42 q
theorem gets_ok {α : Type} (a : α) (r : List Tok) : Gets (.ok a r) a r := .inl rfl
theorem gets_bind {α β : Type} {R : Res α} {a : α} {r r' : List Tok} {b : β} {k : α → List Tok → Res β} (h : Gets R a r) (hk : Gets (k a r) b r') : Gets (R.bind k) b r' := by
  rcases h with h | ⟨q, h⟩
  · rw [h]; exact hk
  · rw [h]; exact .inr ⟨q, rfl⟩
theorem gets_must {β : Type} {s : List UInt8} {ts r : List Tok} {b : β} {k : List Tok → Res β} (hk : Gets (k ts) b r) : Gets (must s (sg s :: ts) k) b r := by
  unfold must
  rw [if_pos (by simp [isSign, sg])]
  exact hk
theorem gets_name {β : Type} {s : List UInt8} {ts r : List Tok} {b : β} {k : List UInt8 → List Tok → Res β} (hk : Gets (k s ts) b r) : Gets (name (⟨1, s, 0, 0⟩ :: ts) k) b r := by
  unfold name
  rw [if_pos (by simp [isName])]
  exact hk
theorem sg_sign (s u : List UInt8) (ts : List Tok) : isSign s (sg u :: ts) = (u == s) := by simp [isSign, sg]
theorem not_sign {s : List UInt8} {t : Tok} {ts : List Tok} (h : t.kind ≠ 4) : isSign s (t :: ts) = false := by simp [isSign, h]

def NoPar (r : List Tok) : Prop := isSign [40] r = false
def NoOps (r : List Tok) : Prop := ∀ n, n < 5 → isOp n r = false
def OneG (o : Rd Ex) : Prop := ∀ x, WFx x → ∀ r, NoPar r → Gets (o (tokE x ++ r)) x.st r
def ExG (e : Rd Ex) : Prop := ∀ x, WFx x → ∀ r, NoPar r → NoOps r → Gets (e (tokE x ++ r)) x.st r
def TwoG (e : Rd Ex) : Prop := ∀ s a b, opSign s → WFx a → WFx b → ∀ r, NoPar r → NoOps r → Gets (e (tokE a ++ sg s :: (tokE b ++ r))) (.mk 6 0 s [a.st, b.st] 0) r

theorem level_other : ∀ n, n < 5 → ∀ m, m < 5 → n ≠ m → ∀ s ∈ levelSigns n, (levelSigns m).contains s = false := by decide
theorem op_sg (n : Nat) (s : List UInt8) (ts : List Tok) : isOp n (sg s :: ts) = (levelSigns n).contains s := by simp [isOp, sg]
theorem noOps_sg {s : List UInt8} (h : ∀ n, n < 5 → (levelSigns n).contains s = false) (ts : List Tok) : NoOps (sg s :: ts) := fun n hn => by rw [op_sg]; exact h n hn
theorem noPar_sg {s : List UInt8} (h : s ≠ [40]) (ts : List Tok) : NoPar (sg s :: ts) := by unfold NoPar; rw [sg_sign]; simpa using h
theorem op_noPar : ∀ n, n < 5 → ∀ s ∈ levelSigns n, s ≠ [40] := by decide
theorem levelGo_no {next : Rd Ex} {n f : Nat} {x : Ex} {ts : List Tok} (h : isOp n ts = false) : levelGo next n (f + 1) x ts = .ok x ts := by
  simp only [levelGo]
  rw [if_neg (by rw [h]; decide)]
theorem lvl_one {one : Rd Ex} (h1 : OneG one) : ∀ m, m ≤ 5 → ∀ x, WFx x → ∀ r, NoPar r → (∀ n, 5 - m ≤ n → n < 5 → isOp n r = false) → Gets (levelS one m (tokE x ++ r)) x.st r := by
  intro m
  induction m with
  | zero => intro _ x hx r hr _; exact h1 x hx r hr
  | succ m ih =>
    intro hm x hx r hr ho
    simp only [levelS]
    refine gets_bind (ih (by omega) x hx r hr fun n h1 h2 => ho n (by omega) h2) ?_
    rw [levelGo_no (ho (4 - m) (by omega) (by omega))]
    exact gets_ok _ _
theorem lvl_two {one : Rd Ex} (h1 : OneG one) (n : Nat) (h5 : n < 5) (s : List UInt8) (hs : s ∈ levelSigns n) (a b : Ex) (ha : WFx a) (hb : WFx b) (r : List Tok) (hr : NoPar r) (ho : NoOps r) :
    ∀ m, m ≤ 5 → 5 - n ≤ m → Gets (levelS one m (tokE a ++ sg s :: (tokE b ++ r))) (.mk 6 0 s [a.st, b.st] 0) r := by
  intro m
  induction m with
  | zero => intro _ h; omega
  | succ m ih =>
    intro hm hn
    simp only [levelS]
    by_cases hc : 5 - n ≤ m
    · refine gets_bind (ih (by omega) hc) ?_
      rw [levelGo_no (ho (4 - m) (by omega))]
      exact gets_ok _ _
    · have hnm : 4 - m = n := by omega
      refine gets_bind (lvl_one h1 m (by omega) a ha _ (noPar_sg (op_noPar n h5 s hs) _) fun n' h1 h2 => ?_) ?_
      · rw [op_sg]; exact level_other n h5 n' h2 (by omega) s hs
      · rw [hnm]
        simp only [levelGo, List.length_cons]
        rw [if_pos (by rw [op_sg]; simpa using hs)]
        refine gets_bind (lvl_one h1 m (by omega) b hb r hr fun n h1 h2 => ho n h2) ?_
        have e1 : headText (sg s :: (tokE b ++ r)) = s := rfl
        have e2 : headPlace (sg s :: (tokE b ++ r)) = 0 := rfl
        rw [e1, e2]
        split
        · exact gets_ok _ _
        · rw [if_neg (by rw [ho n h5]; decide)]
          exact gets_ok _ _
theorem ex_of_one {one : Rd Ex} (h1 : OneG one) : ExG (levelS one 5) ∧ TwoG (levelS one 5) :=
  ⟨fun x hx r hr ho => lvl_one h1 5 (by omega) x hx r hr fun n _ h2 => ho n h2, fun s a b ⟨n, h5, hs⟩ ha hb r hr ho => lvl_two h1 n h5 s (by simpa using hs) a b ha hb r hr ho 5 (by omega) (by omega)⟩

/-! What an expression begins with. -/
def exHeads : List (List UInt8) := [[116, 114, 117, 101], [102, 97, 108, 115, 101], [40], [45], [33], [103, 101, 116], [104, 97, 115], [108, 101, 110]]
theorem tokE_head (x : Ex) (h : WFx x) : ∃ t q, tokE x = t :: q ∧ (t.kind ≠ 4 ∨ t.text ∈ exHeads) := by
  cases h with
  | num n p h => exact ⟨_, _, rfl, .inl (by simp)⟩
  | bool n p h => exact ⟨_, _, rfl, .inr (by simp only [sg]; split <;> decide)⟩
  | text s p h => exact ⟨_, _, rfl, .inl (by simp)⟩
  | name s p h => exact ⟨_, _, rfl, .inl (by simp)⟩
  | call s ks p h hk => exact ⟨_, _, rfl, .inl (by simp)⟩
  | two s a b p h ha hb => exact ⟨_, _, rfl, .inr (by decide)⟩
  | one s a p h ha => rcases h with rfl | rfl <;> exact ⟨_, _, rfl, .inr (by decide)⟩
  | word op a p h ha => rcases h with rfl | rfl | rfl <;> exact ⟨_, _, rfl, .inr (by decide)⟩
theorem tokE_sign {x : Ex} (h : WFx x) {s : List UInt8} (hs : s ∉ exHeads) (r : List Tok) : isSign s (tokE x ++ r) = false := by
  obtain ⟨t, q, he, ht⟩ := tokE_head x h
  rw [he]
  rcases ht with ht | ht
  · exact not_sign ht
  · simp only [List.cons_append, isSign]
    rw [Bool.and_eq_false_iff]
    right
    rw [beq_eq_false_iff_ne]
    rintro rfl
    exact hs ht

/-! Lists. -/
theorem commas_cons (x : List Tok) (l : List (List Tok)) : commas (x :: l) = x ++ (l.map fun y => sg [44] :: y).flatten := by
  induction l generalizing x with
  | nil => simp [commas]
  | cons y l ih => simp [commas, ih]
theorem listGo_gets {α : Type} {one : Rd α} (tok : α → List Tok) (m : α → α) (r : List Tok) : ∀ (ks : List α), (∀ x ∈ ks, ∀ u q, u = [44] ∨ u = [41] → Gets (one (tok x ++ sg u :: q)) (m x) (sg u :: q)) →
    ∀ f acc, ks.length < f → Gets (listGo one f false acc ((ks.map fun x => sg [44] :: tok x).flatten ++ sg [41] :: r)) (acc ++ ks.map m) r := by
  intro ks
  induction ks with
  | nil =>
    intro _ f acc hf
    obtain ⟨f, rfl⟩ : ∃ k, f = k + 1 := ⟨f - 1, by simp at hf; omega⟩
    simp only [listGo, List.map_nil, List.flatten_nil, List.nil_append]
    rw [if_pos (by rw [sg_sign]; rfl), List.append_nil]
    exact gets_ok _ _
  | cons x ks ih =>
    intro h f acc hf
    obtain ⟨f, rfl⟩ : ∃ k, f = k + 1 := ⟨f - 1, by simp at hf; omega⟩
    simp only [List.map_cons, List.flatten_cons, List.cons_append, List.append_assoc, listGo]
    rw [if_neg (by rw [sg_sign]; decide), if_neg (by decide)]
    refine gets_must ?_
    have h2 := ih (fun z hz => h z (by simp [hz])) f (acc ++ [m x]) (by simp at hf; omega)
    rw [List.append_assoc, List.singleton_append] at h2
    refine gets_bind ?_ h2
    cases ks with
    | nil => exact h x (by simp) _ _ (.inr rfl)
    | cons y ks => exact h x (by simp) _ _ (.inl rfl)
theorem list_gets {α : Type} {one : Rd α} (tok : α → List Tok) (m : α → α) (r : List Tok) (ks : List α) (h : ∀ x ∈ ks, ∀ u q, u = [44] ∨ u = [41] → Gets (one (tok x ++ sg u :: q)) (m x) (sg u :: q))
    (hh : ∀ x ∈ ks, ∀ q, isSign [41] (tok x ++ q) = false) : Gets (listS one (commas (ks.map tok) ++ sg [41] :: r)) (ks.map m) r := by
  cases ks with
  | nil =>
    unfold listS
    simp only [List.map_nil, commas, List.nil_append, List.length_cons, listGo]
    rw [if_pos (by rw [sg_sign]; rfl)]
    exact gets_ok _ _
  | cons x ks =>
    unfold listS
    rw [List.map_cons, commas_cons, List.map_map]
    simp only [listGo, List.append_assoc]
    rw [if_neg (by rw [hh x (by simp)]; decide), if_pos trivial]
    have hl : ks.length < (tok x ++ ((ks.map fun x => sg [44] :: tok x).flatten ++ sg [41] :: r)).length := by
      rw [List.length_append, List.length_append, List.length_cons]
      have : ks.length ≤ ((ks.map fun x => sg [44] :: tok x).flatten).length := by
        clear h hh
        induction ks with
        | nil => simp
        | cons y ks ih => simp only [List.map_cons, List.flatten_cons, List.length_append, List.length_cons]; omega
      omega
    have h2 := listGo_gets tok m r ks (fun z hz => h z (by simp [hz])) _ ([] ++ [m x]) hl
    refine gets_bind ?_ h2
    cases ks with
    | nil => exact h x (by simp) _ _ (.inr rfl)
    | cons y ks => exact h x (by simp) _ _ (.inl rfl)

/-! Expressions. -/
theorem close_noPar (r : List Tok) : NoPar (sg [41] :: r) := noPar_sg (by decide) _
theorem close_noOps (r : List Tok) : NoOps (sg [41] :: r) := noOps_sg (by decide) _
theorem inner_gets {e : Rd Ex} (he : ExG e) (x : Ex) (hx : WFx x) (r : List Tok) : Gets (innerS e (sg [40] :: (tokE x ++ sg [41] :: r))) x.st r :=
  gets_must (gets_bind (he x hx _ (close_noPar _) (close_noOps _)) (gets_must (gets_ok _ _)))
theorem one_gets {e o : Rd Ex} (he : ExG e) (ht : TwoG e) (ho : OneG o) : OneG (oneS e o) := by
  intro x hx r hr
  cases hx with
  | num n p h =>
    simp only [tokE, tokOp, if_true, List.singleton_append, oneS, Ex.st, Ex.sts]
    rw [if_neg (by rw [not_sign (by simp)]; decide), if_neg (by rw [not_sign (by simp)]; decide)]
    exact gets_ok _ _
  | bool n p h =>
    rcases (by omega : n = 0 ∨ n = 1) with rfl | rfl <;> exact gets_ok _ _
  | text s p h => exact gets_ok _ _
  | name s p h =>
    have : oneS e o (tokE (.mk 4 0 s [] p) ++ r) = if isSign [40] r then (listS e r.tail).bind fun ks r => .ok (.mk 5 0 s ks 0) r else .ok (.mk 4 0 s [] 0) r := rfl
    rw [this, if_neg (by rw [hr]; decide)]
    exact gets_ok _ _
  | call s ks p h hk =>
    have e1 : tokE (.mk 5 0 s ks p) ++ r = ⟨1, s, 0, 0⟩ :: sg [40] :: (commas (ks.map tokE) ++ sg [41] :: r) := by
      simp [tokE, tokOp, tokEs_map]
    have e2 : oneS e o (⟨1, s, 0, 0⟩ :: sg [40] :: (commas (ks.map tokE) ++ sg [41] :: r)) = (listS e (commas (ks.map tokE) ++ sg [41] :: r)).bind fun ks r => .ok (.mk 5 0 s ks 0) r := rfl
    rw [e1, e2]
    refine gets_bind (list_gets tokE Ex.st r ks (fun x hx u q hu => he x (hk x hx) _ ?_ ?_) fun x hx q => tokE_sign (hk x hx) (by decide) q) ?_
    · rcases hu with rfl | rfl <;> exact noPar_sg (by decide) _
    · rcases hu with rfl | rfl <;> exact noOps_sg (by decide) _
    · simp only [Ex.st, Ex.sts_map]
      exact gets_ok _ _
  | two s a b p h ha hb =>
    have e1 : tokE (.mk 6 0 s [a, b] p) ++ r = sg [40] :: (tokE a ++ sg s :: (tokE b ++ sg [41] :: r)) := by
      simp [tokE, tokOp, tokEs, nthS]
    rw [e1]
    have e2 : oneS e o (sg [40] :: (tokE a ++ sg s :: (tokE b ++ sg [41] :: r))) = innerS e (sg [40] :: (tokE a ++ sg s :: (tokE b ++ sg [41] :: r))) := rfl
    rw [e2]
    exact gets_must (gets_bind (ht s a b h ha hb _ (close_noPar _) (close_noOps _)) (gets_must (gets_ok _ _)))
  | one s a p h ha =>
    rcases h with rfl | rfl
    · exact gets_bind (ho a ha r hr) (gets_ok _ _)
    · exact gets_bind (ho a ha r hr) (gets_ok _ _)
  | word op a p h ha =>
    have hi := inner_gets he a ha r
    rcases h with rfl | rfl | rfl
    · have e1 : tokE (.mk 8 0 [] [a] p) ++ r = sg [103, 101, 116] :: sg [40] :: (tokE a ++ sg [41] :: r) := by simp [tokE, tokOp, tokEs, nthS]
      rw [e1]
      exact gets_bind hi (gets_ok _ _)
    · have e1 : tokE (.mk 9 0 [] [a] p) ++ r = sg [104, 97, 115] :: sg [40] :: (tokE a ++ sg [41] :: r) := by simp [tokE, tokOp, tokEs, nthS]
      rw [e1]
      exact gets_bind hi (gets_ok _ _)
    · have e1 : tokE (.mk 10 0 [] [a] p) ++ r = sg [108, 101, 110] :: sg [40] :: (tokE a ++ sg [41] :: r) := by simp [tokE, tokOp, tokEs, nthS]
      rw [e1]
      exact gets_bind hi (gets_ok _ _)
theorem EK_gets (k : Nat) : ExG (EK k).1 ∧ TwoG (EK k).1 ∧ OneG (EK k).2 := by
  induction k with
  | zero => exact ⟨fun x _ r _ _ => .inr ⟨_, rfl⟩, fun s a b _ _ _ r _ _ => .inr ⟨_, rfl⟩, fun x _ r _ => .inr ⟨_, rfl⟩⟩
  | succ k ih =>
    have h1 := one_gets ih.1 ih.2.1 ih.2.2
    exact ⟨(ex_of_one h1).1, (ex_of_one h1).2, h1⟩

/-! Statements. -/
def NoElse (r : List Tok) : Prop := isSign [101, 108, 115, 101] r = false
def StG (s : Rd St) : Prop := ∀ x, WFs x → ∀ r, NoElse r → Gets (s (tokS x ++ r)) x.st r
def BlG (b : Rd (List St)) : Prop := ∀ l, (∀ s ∈ l, WFs s) → ∀ r, Gets (b (tokBlock (tokSs l) ++ r)) (St.sts l) r
theorem ex_semi {e : Rd Ex} (he : ExG e) (x : Ex) (hx : WFx x) {u : List UInt8} (hu : u = [59] ∨ u = [44] ∨ u = [41] ∨ u = [123] ∨ u = [116, 111]) (q : List Tok) : Gets (e (tokE x ++ sg u :: q)) x.st (sg u :: q) :=
  he x hx _ (by rcases hu with rfl | rfl | rfl | rfl | rfl <;> exact noPar_sg (by decide) _) (by rcases hu with rfl | rfl | rfl | rfl | rfl <;> exact noOps_sg (by decide) _)
theorem set_no {x : Ex} (hx : WFx x) (r : List Tok) : (isName (tokE x ++ sg [59] :: r) && isSign [61] (tokE x ++ sg [59] :: r).tail) = false := by
  cases hx with
  | num n p h => rfl
  | bool n p h => rfl
  | text s p h => rfl
  | name s p h => rfl
  | call s ks p h hk => rfl
  | two s a b p h ha hb => rfl
  | one s a p h ha => rcases h with rfl | rfl <;> rfl
  | word op a p h ha => rcases h with rfl | rfl | rfl <;> rfl
theorem stmtS_do {e : Rd Ex} {b : Rd (List St)} {ts : List Tok} (h1 : isSign [108, 101, 116] ts = false) (h2 : isSign [105, 102] ts = false) (h3 : isSign [102, 111, 114] ts = false) (h4 : isSign [114, 101, 116, 117, 114, 110] ts = false) (h5 : isSign [112, 117, 116] ts = false) (h6 : isSign [100, 101, 108] ts = false)
    (h7 : (isName ts && isSign [61] ts.tail) = false) : stmtS e b ts = (e ts).bind fun x r => must [59] r fun r => .ok (.mk 8 [] [x] [] [] (headPlace ts)) r := by
  unfold stmtS
  simp only [h1, h2, h3, h4, h5, h6, h7, Bool.false_eq_true, if_false]
theorem head_app {x : Ex} (hx : WFx x) (r : List Tok) : headPlace (tokE x ++ r) = 0 := by
  cases hx with
  | num n p h => rfl
  | bool n p h => rfl
  | text s p h => rfl
  | name s p h => rfl
  | call s ks p h hk => rfl
  | two s a b p h ha hb => rfl
  | one s a p h ha => rcases h with rfl | rfl <;> rfl
  | word op a p h ha => rcases h with rfl | rfl | rfl <;> rfl
theorem stmt_gets {e : Rd Ex} {b : Rd (List St)} (he : ExG e) (hb : BlG b) : StG (stmtS e b) := by
  intro x hx r hr
  cases hx with
  | let_ nm x p h hx =>
    have e1 : tokS (.mk 1 nm [x] [] [] p) ++ r = sg [108, 101, 116] :: ⟨1, nm, 0, 0⟩ :: sg [61] :: (tokE x ++ sg [59] :: r) := by simp [tokS, stmtTok, tokEs, nthS]
    rw [e1]
    have e2 : ∀ ts, stmtS e b (sg [108, 101, 116] :: ts) = name ts fun nm r => must [61] r fun r => (e r).bind fun x r => must [59] r fun r => .ok (St.mk 1 nm [x] [] [] 0) r := fun ts => by
      unfold stmtS
      rw [if_pos (by rw [sg_sign]; decide)]
      rfl
    rw [e2]
    refine gets_name ?_
    refine gets_must ?_
    exact gets_bind (ex_semi he x hx (.inl rfl) _) (gets_must (gets_ok _ _))
  | set_ nm x p h hx =>
    have e1 : tokS (.mk 2 nm [x] [] [] p) ++ r = ⟨1, nm, 0, 0⟩ :: sg [61] :: (tokE x ++ sg [59] :: r) := by simp [tokS, stmtTok, tokEs, nthS]
    rw [e1]
    exact gets_bind (ex_semi he x hx (.inl rfl) _) (gets_must (gets_ok _ _))
  | if_ x bd l p hx hbd hl =>
    cases l with
    | nil =>
      have e1 : tokS (.mk 3 [] [x] bd [] p) ++ r = sg [105, 102] :: (tokE x ++ (tokBlock (tokSs bd) ++ r)) := by simp [tokS, stmtTok, tokEs, nthS, tokSs]
      rw [e1]
      refine gets_bind (ex_semi he x hx (.inr (.inr (.inr (.inl rfl)))) _) (gets_bind (hb bd hbd r) ?_)
      rw [if_neg (by rw [hr]; decide)]
      exact gets_ok _ _
    | cons y l =>
      have e1 : tokS (.mk 3 [] [x] bd (y :: l) p) ++ r = sg [105, 102] :: (tokE x ++ (tokBlock (tokSs bd) ++ sg [101, 108, 115, 101] :: (tokBlock (tokSs (y :: l)) ++ r))) := by simp [tokS, stmtTok, tokEs, nthS, tokSs]
      rw [e1]
      refine gets_bind (ex_semi he x hx (.inr (.inr (.inr (.inl rfl)))) _) (gets_bind (hb bd hbd _) ?_)
      rw [if_pos (by rw [sg_sign]; decide)]
      exact gets_bind (hb (y :: l) hl r) (gets_ok _ _)
  | for_ nm x y bd p h hx hy hbd =>
    have e1 : tokS (.mk 4 nm [x, y] bd [] p) ++ r = sg [102, 111, 114] :: ⟨1, nm, 0, 0⟩ :: sg [61] :: (tokE x ++ sg [116, 111] :: (tokE y ++ (tokBlock (tokSs bd) ++ r))) := by simp [tokS, stmtTok, tokEs, nthS]
    rw [e1]
    have e2 : ∀ ts, stmtS e b (sg [102, 111, 114] :: ts) = name ts fun nm r => must [61] r fun r => (e r).bind fun x r => must [116, 111] r fun r => (e r).bind fun y r => (b r).bind fun bd r => .ok (St.mk 4 nm [x, y] bd [] 0) r := fun ts => by
      unfold stmtS
      rw [if_neg (by rw [sg_sign]; decide), if_neg (by rw [sg_sign]; decide), if_pos (by rw [sg_sign]; decide)]
      rfl
    rw [e2]
    refine gets_name ?_
    refine gets_must ?_
    refine gets_bind (ex_semi he x hx (.inr (.inr (.inr (.inr rfl)))) _) ?_
    refine gets_must ?_
    exact (gets_bind (ex_semi he y hy (.inr (.inr (.inr (.inl rfl)))) _) (gets_bind (hb bd hbd r) (gets_ok _ _)))
  | ret0 p => exact gets_ok _ _
  | ret1 x p hx =>
    have e1 : tokS (.mk 5 [] [x] [] [] p) ++ r = sg [114, 101, 116, 117, 114, 110] :: (tokE x ++ sg [59] :: r) := by simp [tokS, stmtTok, tokEs, nthS]
    rw [e1]
    have e2 : stmtS e b (sg [114, 101, 116, 117, 114, 110] :: (tokE x ++ sg [59] :: r)) = if isSign [59] (tokE x ++ sg [59] :: r) then .ok (.mk 5 [] [] [] [] 0) (tokE x ++ sg [59] :: r).tail else (e (tokE x ++ sg [59] :: r)).bind fun x r => must [59] r fun r => .ok (.mk 5 [] [x] [] [] 0) r := rfl
    rw [e2, if_neg (by rw [tokE_sign hx (by decide)]; decide)]
    exact gets_bind (ex_semi he x hx (.inl rfl) _) (gets_must (gets_ok _ _))
  | put x y p hx hy =>
    have e1 : tokS (.mk 6 [] [x, y] [] [] p) ++ r = sg [112, 117, 116] :: sg [40] :: (tokE x ++ sg [44] :: (tokE y ++ sg [41] :: sg [59] :: r)) := by simp [tokS, stmtTok, tokEs, nthS]
    rw [e1]
    have e2 : ∀ ts, stmtS e b (sg [112, 117, 116] :: ts) = must [40] ts fun r => (e r).bind fun x r => must [44] r fun r => (e r).bind fun y r => must [41] r fun r => must [59] r fun r => .ok (St.mk 6 [] [x, y] [] [] 0) r := fun ts => by
      unfold stmtS
      rw [if_neg (by rw [sg_sign]; decide), if_neg (by rw [sg_sign]; decide), if_neg (by rw [sg_sign]; decide), if_neg (by rw [sg_sign]; decide), if_pos (by rw [sg_sign]; decide)]
      rfl
    rw [e2]
    refine gets_must ?_
    refine gets_bind (ex_semi he x hx (.inr (.inl rfl)) _) ?_
    refine gets_must ?_
    refine gets_bind (ex_semi he y hy (.inr (.inr (.inl rfl))) _) ?_
    exact gets_must (gets_must (gets_ok _ _))
  | del x p hx =>
    have e1 : tokS (.mk 7 [] [x] [] [] p) ++ r = sg [100, 101, 108] :: sg [40] :: (tokE x ++ sg [41] :: sg [59] :: r) := by simp [tokS, stmtTok, tokEs, nthS]
    rw [e1]
    have e2 : ∀ ts, stmtS e b (sg [100, 101, 108] :: ts) = must [40] ts fun r => (e r).bind fun x r => must [41] r fun r => must [59] r fun r => .ok (St.mk 7 [] [x] [] [] 0) r := fun ts => by
      unfold stmtS
      rw [if_neg (by rw [sg_sign]; decide), if_neg (by rw [sg_sign]; decide), if_neg (by rw [sg_sign]; decide), if_neg (by rw [sg_sign]; decide), if_neg (by rw [sg_sign]; decide), if_pos (by rw [sg_sign]; decide)]
      rfl
    rw [e2]
    refine gets_must ?_
    refine gets_bind (ex_semi he x hx (.inr (.inr (.inl rfl))) _) ?_
    exact gets_must (gets_must (gets_ok _ _))
  | do_ x p hx =>
    have e1 : tokS (.mk 8 [] [x] [] [] p) ++ r = tokE x ++ sg [59] :: r := by simp [tokS, stmtTok, tokEs, nthS]
    rw [e1, stmtS_do (tokE_sign hx (by decide) _) (tokE_sign hx (by decide) _) (tokE_sign hx (by decide) _) (tokE_sign hx (by decide) _) (tokE_sign hx (by decide) _) (tokE_sign hx (by decide) _) (set_no hx r), head_app hx]
    exact gets_bind (ex_semi he x hx (.inl rfl) _) (gets_must (gets_ok _ _))
theorem tokS_sign {x : St} (hx : WFs x) (r : List Tok) : isSign [125] (tokS x ++ r) = false ∧ isSign [101, 108, 115, 101] (tokS x ++ r) = false := by
  cases hx with
  | do_ x p hx =>
    have e1 : tokS (.mk 8 [] [x] [] [] p) ++ r = tokE x ++ sg [59] :: r := by simp [tokS, stmtTok, tokEs, nthS]
    rw [e1]
    exact ⟨tokE_sign hx (by decide) _, tokE_sign hx (by decide) _⟩
  | _ => exact ⟨rfl, rfl⟩
theorem blockGo_gets {s : Rd St} (hs : StG s) (r : List Tok) : ∀ (l : List St), (∀ x ∈ l, WFs x) → ∀ f acc, l.length < f → Gets (blockGo s f acc ((l.map tokS).flatten ++ sg [125] :: r)) (acc ++ St.sts l) r := by
  intro l
  induction l with
  | nil =>
    intro _ f acc hf
    obtain ⟨f, rfl⟩ : ∃ k, f = k + 1 := ⟨f - 1, by simp at hf; omega⟩
    simp only [blockGo, List.map_nil, List.flatten_nil, List.nil_append, St.sts]
    rw [if_pos (by rw [sg_sign]; rfl), List.append_nil]
    exact gets_ok _ _
  | cons x l ih =>
    intro h f acc hf
    obtain ⟨f, rfl⟩ : ∃ k, f = k + 1 := ⟨f - 1, by simp at hf; omega⟩
    simp only [List.map_cons, List.flatten_cons, List.append_assoc, blockGo, St.sts]
    rw [if_neg (by rw [(tokS_sign (h x (by simp)) _).1]; decide)]
    have h2 := ih (fun z hz => h z (by simp [hz])) f (acc ++ [x.st]) (by simp at hf; omega)
    rw [List.append_assoc, List.singleton_append] at h2
    refine gets_bind (hs x (h x (by simp)) _ ?_) h2
    cases l with
    | nil => exact (by decide : isSign [101, 108, 115, 101] [sg [125]] = false)
    | cons y l => 
      simp only [List.map_cons, List.flatten_cons, List.append_assoc]
      exact (tokS_sign (h y (by simp)) _).2
theorem tokBlock_app (l : List St) (r : List Tok) : tokBlock (tokSs l) ++ r = sg [123] :: ((l.map tokS).flatten ++ sg [125] :: r) := by simp [tokBlock, tokSs_map]
theorem tokS_pos {x : St} (hx : WFs x) : 1 ≤ (tokS x).length := by
  cases hx with
  | do_ x p hx => simp [tokS, stmtTok, tokEs, nthS]
  | _ => simp [tokS, stmtTok, tokEs]
theorem flat_len (l : List St) (h : ∀ x ∈ l, WFs x) : l.length ≤ ((l.map tokS).flatten).length := by
  induction l with
  | nil => simp
  | cons x l ih =>
    have := tokS_pos (h x (by simp))
    have := ih fun z hz => h z (by simp [hz])
    simp only [List.map_cons, List.flatten_cons, List.length_append, List.length_cons]
    omega
theorem BK_gets (k : Nat) : BlG (BK k) := by
  induction k with
  | zero =>
    intro l hl r
    rw [tokBlock_app]
    exact .inr ⟨_, rfl⟩
  | succ k ih =>
    intro l hl r
    rw [tokBlock_app]
    have := blockGo_gets (stmt_gets (EK_gets k).1 ih) r l hl ((sg [123] :: ((l.map tokS).flatten ++ sg [125] :: r)).length + 1) [] (by have := flat_len l hl; rw [List.length_cons, List.length_append]; omega)
    simp only [BK, blockS]
    rw [if_pos (by rw [sg_sign]; rfl), if_pos trivial]
    exact this

/-! Functions. -/
theorem typ_gets {t : Nat} (h : t = 1 ∨ t = 2 ∨ t = 3) (r : List Tok) : Gets (typS (typTok t ++ r)) t r := by
  rcases h with rfl | rfl | rfl <;> exact gets_ok _ _
theorem param_gets (p : Pa) (h : p.wf) (r : List Tok) : Gets (paramS (paTok p ++ r)) p r := by
  obtain ⟨nm, t⟩ := p
  refine gets_name (gets_must (gets_bind (typ_gets h.2 r) (gets_ok _ _)))
theorem fun_gets (f : Fu) (h : f.wf) (r : List Tok) : Gets (funS (funTok f ++ r)) f.st r := by
  obtain ⟨h1, h2, h3, h4⟩ := h
  have e1 : funTok f ++ r = sg [102, 110] :: ⟨1, f.name, 0, 0⟩ :: sg [40] :: (commas (f.params.map paTok) ++ sg [41] :: ((if typTok f.result = [] then [] else sg [58] :: typTok f.result) ++ (tokBlock (tokSs f.body) ++ r))) := by
    simp [funTok]
  rw [e1]
  refine gets_must (gets_name (gets_must (gets_bind (list_gets paTok (fun p => p) _ f.params (fun x hx u q _ => param_gets x (h2 x hx) _) fun x hx q => rfl) ?_)))
  rw [List.map_id']
  rcases (by omega : f.result = 0 ∨ f.result = 1 ∨ f.result = 2 ∨ f.result = 3) with hr | hr
  · have e2 : (if typTok f.result = [] then [] else sg [58] :: typTok f.result) = [] := by rw [hr]; rfl
    rw [e2, List.nil_append, if_neg (by rw [tokBlock_app, sg_sign]; decide)]
    refine gets_bind (BK_gets 32 f.body h4 r) ?_
    simp only [Fu.st, hr]
    exact gets_ok _ _
  · have hne : ¬ typTok f.result = [] := by rcases hr with hr | hr | hr <;> (rw [hr]; decide)
    rw [if_neg hne, List.cons_append, if_pos (by rw [sg_sign]; decide), List.tail_cons]
    refine gets_bind (typ_gets hr _) (gets_bind (BK_gets 32 f.body h4 r) ?_)
    exact gets_ok _ _
theorem progGo_gets : ∀ (p : List Fu), (∀ f ∈ p, f.wf) → ∀ f acc, p.length < f → Gets (progGo f acc (tokP p)) (acc ++ p.map Fu.st) [] := by
  intro p
  induction p with
  | nil =>
    intro _ f acc hf
    obtain ⟨f, rfl⟩ : ∃ k, f = k + 1 := ⟨f - 1, by simp at hf; omega⟩
    simp only [tokP, List.map_nil, List.flatten_nil, progGo, List.append_nil]
    exact gets_ok _ _
  | cons x p ih =>
    intro h f acc hf
    obtain ⟨f, rfl⟩ : ∃ k, f = k + 1 := ⟨f - 1, by simp at hf; omega⟩
    have h2 := ih (fun z hz => h z (by simp [hz])) f (acc ++ [x.st]) (by simp at hf; omega)
    rw [List.append_assoc, List.singleton_append] at h2
    have h1 := fun_gets x (h x (by simp)) (tokP p)
    have e1 : tokP (x :: p) = funTok x ++ tokP p := by simp [tokP]
    obtain ⟨t, q, e2⟩ : ∃ t q, funTok x ++ tokP p = t :: q := ⟨_, _, rfl⟩
    rw [e1, e2]
    rw [e2] at h1
    simp only [progGo, List.map_cons]
    exact gets_bind h1 h2
theorem prog_gets (p : List Fu) (h : ∀ f ∈ p, f.wf) : Gets (progS (tokP p)) (p.map Fu.st) [] := by
  have := progGo_gets p h ((tokP p).length + 1) [] (by
    have : p.length ≤ (tokP p).length := by
      clear h
      induction p with
      | nil => simp
      | cons x p ih =>
        have e1 : tokP (x :: p) = funTok x ++ tokP p := by simp [tokP]
        rw [e1, List.length_append, List.length_cons]
        have : 1 ≤ (funTok x).length := by simp [funTok]
        omega
    omega)
  exact this
/-- WHAT A TEXT's PROGRAM IS: well formed, no greater than its tokens. -/
theorem parse_wf {s : List UInt8} {p : List Fu} (h : parse s = .ok p) : (∀ f ∈ p, f.wf) ∧ sumOf Fu.size p ≤ 2048 := by
  unfold parse at h
  cases hx : lex s with
  | error e => rw [hx] at h; cases h
  | ok x =>
    rw [hx] at h
    simp only [] at h
    have hi := inv_prog x (lex_wf hx).1
    cases hp : progS x with
    | err e r => rw [hp] at h; cases h
    | ok q r =>
      rw [hp] at h hi
      cases h
      exact ⟨hi.2.1, by have := hi.1; have := (lex_wf hx).2; omega⟩
/-- THE LAW OF THE WAY BACK. -/
theorem back_law {s : List UInt8} {p : List Fu} (h : parse s = .ok p) :
    (∃ e at_, parse (showP p) = .error (e, at_) ∧ (e = 42 ∨ e = 2)) ∨ ∃ q, parse (showP p) = .ok q ∧ q.map Fu.st = p.map Fu.st ∧ showP q = showP p := by
  obtain ⟨hw, _⟩ := parse_wf h
  rcases lex_show p hw with ⟨us, hl, hu⟩ | ⟨q, hl⟩
  · have hg := prog_gets p hw
    rw [← hu, nat_prog] at hg
    unfold parse
    rw [hl]
    cases hp : progS us with
    | ok q r =>
      right
      rw [hp] at hg
      rcases hg with hg | ⟨z, hg⟩
      · simp only [Res.map, Res.ok.injEq] at hg
        exact ⟨q, by simp only [hp], hg.1, by rw [← showP_st q, hg.1, showP_st]⟩
      · cases hg
    | err e r =>
      left
      rw [hp] at hg
      rcases hg with hg | ⟨z, hg⟩
      · cases hg
      · simp only [Res.map, Res.err.injEq] at hg
        exact ⟨e, placeOf (showP p).length r, by simp only [hp], .inl hg.1⟩
  · left
    exact ⟨2, q, by unfold parse; rw [hl], .inr rfl⟩
end Go.Proofs.YtaehlakefgnfmaaDoor
