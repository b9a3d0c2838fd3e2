/- Plain words for the drill's proofs: lists of bytes, numbers; no program in sight. -/
import Derived.Lib.SplitLaws
import Derived.Lib.TrimByte
import Derived.Lib.Strings
import Derived.Lib.ItoaNum
import Derived.Lib.Atoi
namespace Drl
abbrev Str := List UInt8

/-- one of a to z -/
def isLet (c : UInt8) : Bool := decide (97 ≤ c.toNat) && decide (c.toNat ≤ 122)
def isDig (c : UInt8) : Bool := decide (48 ≤ c.toNat) && decide (c.toNat ≤ 57)
/-- a word of one letter -/
def letterB (s : Str) : Bool := match s with | [c] => isLet c | _ => false
def namedB (s : Str) : Bool := s.all isLet && (decide (1 ≤ s.length) && decide (s.length ≤ 12))
def numVal (s : Str) : Nat := s.foldl (fun n c => n * 10 + (c.toNat - 48)) 0
/-- one to six digits, the first of several not 0 -/
def numOk (s : Str) : Bool := decide (1 ≤ s.length) && decide (s.length ≤ 6) && !(decide (1 < s.length) && decide ((s.headD 0).toNat = 48)) && s.all isDig
theorem decFrom_foldl : ∀ (l : Str) (acc : Nat), l.all isDig = true → Go.Lib.decFrom acc l = some (l.foldl (fun n c => n * 10 + (c.toNat - 48)) acc)
  | [], _, _ => rfl
  | c :: r, acc, h => by
    simp only [List.all_cons, Bool.and_eq_true] at h
    have hc : 48 ≤ c.toNat ∧ c.toNat ≤ 57 := by simpa [isDig] using h.1
    simp only [Go.Lib.decFrom, Go.Lib.digitVal, hc, and_self, if_true, List.foldl_cons]
    exact decFrom_foldl r _ h.2
theorem atoi_numOk (s : Str) (h : numOk s = true) : Go.Lib.atoi s = some (numVal s : Int) := by
  simp only [numOk, Bool.and_eq_true, decide_eq_true_eq] at h
  obtain ⟨⟨⟨h1, _⟩, _⟩, h4⟩ := h
  cases s with
  | nil => simp at h1
  | cons c r =>
    have hc : 48 ≤ c.toNat ∧ c.toNat ≤ 57 := by
      simp only [List.all_cons, Bool.and_eq_true] at h4
      simpa [isDig] using h4.1
    have h45 : (c == 45) = false := by rw [beq_eq_false_iff_ne]; intro e; subst e; simp at hc
    have h43 : (c == 43) = false := by rw [beq_eq_false_iff_ne]; intro e; subst e; simp at hc
    simp only [Go.Lib.atoi, h45, h43, Go.Lib.decNat, List.isEmpty_cons, decFrom_foldl _ _ h4]
    rfl
theorem numVal_lt_aux : ∀ (l : Str) (acc : Nat), l.all isDig = true → l.foldl (fun n c => n * 10 + (c.toNat - 48)) acc < (acc + 1) * 10 ^ l.length
  | [], acc, _ => by simp
  | c :: r, acc, h => by
    simp only [List.all_cons, Bool.and_eq_true] at h
    have hc : 48 ≤ c.toNat ∧ c.toNat ≤ 57 := by simpa [isDig] using h.1
    simp only [List.foldl_cons, List.length_cons]
    refine Nat.lt_of_lt_of_le (numVal_lt_aux r _ h.2) ?_
    have h1 : acc * 10 + (c.toNat - 48) + 1 ≤ (acc + 1) * 10 := by omega
    have h2 := Nat.mul_le_mul_right (10 ^ r.length) h1
    rw [Nat.pow_succ, Nat.mul_comm (10 ^ r.length) 10, ← Nat.mul_assoc]
    exact h2
theorem numVal_lt (s : Str) (h : numOk s = true) : numVal s < 1000000 := by
  simp only [numOk, Bool.and_eq_true, decide_eq_true_eq] at h
  obtain ⟨⟨⟨_, h2⟩, _⟩, h4⟩ := h
  have := numVal_lt_aux s 0 h4
  have h10 : 10 ^ s.length ≤ 10 ^ 6 := Nat.pow_le_pow_right (by omega) h2
  unfold numVal
  omega
/-- what number answers -/
def numN (s : Str) : Int := if numOk s then numVal s else 0
def numB (s : Str) (most : Int) : Bool := numOk s && decide ((numVal s : Int) ≤ most)

/-- a text cut at each c -/
def cutAt (c : UInt8) : Str → List Str
  | [] => [[]]
  | x :: r => if x = c then [] :: cutAt c r else
    match cutAt c r with
    | w :: ws => (x :: w) :: ws
    | [] => [[x]]
def words (s : Str) : List Str := cutAt 32 s

theorem cutAt_ne (c : UInt8) : ∀ s, cutAt c s ≠ []
  | [] => by simp [cutAt]
  | x :: r => by
    unfold cutAt
    split
    · simp
    · split <;> simp

/-- the lines: cut at each line end; the last may lack it -/
def rawLines (s : Str) : List Str := if (cutAt 10 s).getLast (cutAt_ne 10 s) = [] then (cutAt 10 s).dropLast else cutAt 10 s
def trim (s : Str) : Str := s.dropWhile (· == 32)
/-- does it say something? -/
def says (t : Str) : Bool := match t with | [] => false | c :: _ => !decide (c.toNat = 35)

structure Ln where
  at_ : Nat
  text : Str
  ws : List Str
deriving DecidableEq
def mkLn (at_ : Nat) (t : Str) : Ln := ⟨at_, t, words t⟩
def linesFrom : Nat → List Str → List Ln
  | _, [] => []
  | i, s :: r => if says (trim s) then mkLn i (trim s) :: linesFrom (i + 1) r else linesFrom (i + 1) r
def lines (text : Str) : List Ln := linesFrom 0 (rawLines text)

def wd (ws : List Str) (i : Nat) : Str := ws.getD i []

/-- clients (the word) -/
def wClients : Str := [99, 108, 105, 101, 110, 116, 115]
def wEnd : Str := [101, 110, 100]
def wDef : Str := [100, 101, 102]
def wFor : Str := [102, 111, 114]
def wRepeat : Str := [114, 101, 112, 101, 97, 116]
def wUse : Str := [117, 115, 101]
def wExpect : Str := [101, 120, 112, 101, 99, 116]

def headN (l : List Ln) : Int := match l with | [] => 0 | x :: _ => if x.ws.length = 2 ∧ wd x.ws 0 = wClients then numN (wd x.ws 1) else 0
def headB (l : List Ln) : Bool := match l with | [] => false | x :: _ => decide (x.ws.length = 2 ∧ wd x.ws 0 = wClients) && (numB (wd x.ws 1) 64 && decide (0 < numN (wd x.ws 1)))

/-- a node of the tree, its children and what it uses by their numbers -/
structure Nd where
  at_ : Nat := 0
  text : Str := []
  ws : List Str := []
  letter : UInt8 := 0
  body : List Nat := []
  use : Option Nat := none

structure RSt where
  ar : List Nd
  opn : List Nat
  names : List (Str × Nat)

def look (names : List (Str × Nat)) (s : Str) : Option Nat := (names.find? (fun p => p.1 == s)).map (·.2)

def nd (ar : List Nd) (i : Nat) : Nd := ar.getD i {}

/-- does a letter stand for a number here? -/
def around (ar : List Nd) (opn : List Nat) (c : UInt8) : Bool := opn.any fun i => (nd ar i).letter == c
def countsB (ar : List Nd) (opn : List Nat) (s : Str) : Bool :=
  match s with
  | [d, c] => if d.toNat = 36 ∧ isLet c = true then around ar opn c else numB s 1000
  | _ => numB s 1000

/-- why a line cannot stand here (0: it can) -/
def wrongE (st : RSt) (x : Ln) : Nat :=
  if wd x.ws 0 = wDef then
    if x.ws.length ≠ 2 then 291
    else if 1 < st.opn.length then 290
    else if !namedB (wd x.ws 1) || (look st.names (wd x.ws 1)).isSome then 291 else 0
  else if wd x.ws 0 = wRepeat then
    if x.ws.length ≠ 2 || !countsB st.ar st.opn (wd x.ws 1) then 292 else 0
  else if wd x.ws 0 = wFor then
    if x.ws.length ≠ 4 || !letterB (wd x.ws 1) || around st.ar st.opn ((wd x.ws 1).headD 0) then 293
    else if !countsB st.ar st.opn (wd x.ws 2) || !countsB st.ar st.opn (wd x.ws 3) then 292 else 0
  else if wd x.ws 0 = wUse then
    if x.ws.length ≠ 2 || (look st.names (wd x.ws 1)).isNone then 291 else 0
  else 0

abbrev Err := Nat × Nat

def top (st : RSt) : Nat := st.opn.getLastD 0

def addTo (ar : List Nd) (i : Nat) (k : Nat) : List Nd := ar.modify i fun n => { n with body := n.body ++ [k] }

/-- one line is read -/
def readStep (st : RSt) (x : Ln) : Except Err RSt :=
  let n := st.ar.length
  let inn := top st
  let new : Nd := { at_ := x.at_, text := x.text, ws := x.ws }
  if x.text = wEnd then
    if inn = 0 then .error (x.at_, 290)
    else .ok { ar := st.ar ++ [new], opn := st.opn.dropLast, names := if wd (nd st.ar inn).ws 0 = wDef then st.names ++ [(wd (nd st.ar inn).ws 1, inn)] else st.names }
  else if wrongE st x ≠ 0 then .error (x.at_, wrongE st x)
  else if wd x.ws 0 = wDef then .ok { st with ar := st.ar ++ [new], opn := st.opn ++ [n] }
  else if wd x.ws 0 = wFor then .ok { st with ar := addTo (st.ar ++ [{ new with letter := (wd x.ws 1).headD 0 }]) inn n, opn := st.opn ++ [n] }
  else if wd x.ws 0 = wRepeat then .ok { st with ar := addTo (st.ar ++ [new]) inn n, opn := st.opn ++ [n] }
  else if wd x.ws 0 = wUse then .ok { st with ar := addTo (st.ar ++ [{ new with use := look st.names (wd x.ws 1) }]) inn n }
  else .ok { st with ar := addTo (st.ar ++ [new]) inn n }

def readFrom : RSt → List Ln → Except Err RSt
  | st, [] => if top st = 0 then .ok st else .error ((nd st.ar (top st)).at_, 290)
  | st, x :: r => match readStep st x with
    | .error e => .error e
    | .ok st' => readFrom st' r
def st0 : RSt := { ar := [{}], opn := [0], names := [] }

/-! ### going through -/

structure Dr where
  line : Nat
  text : Str
  want : Bool
deriving DecidableEq

structure PSt where
  steps : List Dr := []
  said : Bool := false
  turns : Nat := 0

abbrev Nums := Nat → Int
def noNums : Nums := fun _ => -1
def upd (v : Nums) (c : Nat) (k : Int) : Nums := fun i => if i = c then k else v i

/-- numbers put in for letters -/
def filled (v : Nums) : Str → Str
  | [] => []
  | [c] => [c]
  | d :: c :: r => if d.toNat = 36 ∧ c.toNat < 128 ∧ 0 ≤ v c.toNat then Go.Lib.decDigits (v c.toNat).toNat ++ filled v r else d :: filled v (c :: r)

def cnt (v : Nums) (s : Str) : Option Int := if numOk (filled v s) then some (numVal (filled v s)) else none

def turn (at_ : Nat) (st : PSt) : Except Err PSt := if st.turns = 65536 then .error (at_, 294) else .ok { st with turns := st.turns + 1 }

/-- the step that a line is -/
def drOf (n : Nd) (v : Nums) : Dr :=
  if wd n.ws 0 = wExpect then ⟨n.at_, filled v (Go.Lib.trimPrefix (n.text.drop 6) [32]), true⟩ else ⟨n.at_, filled v n.text, false⟩
def step (n : Nd) (v : Nums) (st : PSt) : Except Err PSt :=
  let x := drOf n v
  if x.want = true ∧ st.said = false then .error (n.at_, 296)
  else if st.steps.length = 4096 then .error (n.at_, 294)
  else .ok { st with steps := st.steps ++ [x], said := true }

inductive Task where
  | seq (l : List Nat) (v : Nums)
  | times (n : Nat) (body : List Nat) (v : Nums) (a b : Int)
  | loop (n : Nat) (body : List Nat) (v : Nums) (a b : Int)

/-- what a task comes to with so much fuel; none: too little, or a number that is none -/
def run (ar : List Nd) : Nat → Task → PSt → Option (Except Err PSt)
  | 0, _, _ => none
  | _ + 1, .seq [] _, st => some (.ok st)
  | k + 1, .seq (n :: l) v, st =>
    match (if wd (nd ar n).ws 0 = wRepeat then (cnt v (wd (nd ar n).ws 1)).bind fun c => run ar k (.times n (nd ar n).body v 1 c) st
      else if wd (nd ar n).ws 0 = wFor then (cnt v (wd (nd ar n).ws 2)).bind fun a => (cnt v (wd (nd ar n).ws 3)).bind fun b => run ar k (.times n (nd ar n).body v a b) st
      else if wd (nd ar n).ws 0 = wUse then (nd ar n).use.bind fun d => run ar k (.times n (nd ar d).body noNums 1 1) st
      else some (step (nd ar n) v st)) with
    | none => none
    | some (.error e) => some (.error e)
    | some (.ok st') => run ar k (.seq l v) st'
  | k + 1, .times n body v a b, st =>
    match turn (nd ar n).at_ st with
    | .error e => some (.error e)
    | .ok st' => run ar k (.loop n body v a b) st'
  | k + 1, .loop n body v a b, st =>
    if a ≤ b then
      match turn (nd ar n).at_ st with
      | .error e => some (.error e)
      | .ok st' =>
        match run ar k (.seq body (if (nd ar n).letter.toNat ≠ 0 then upd v (nd ar n).letter.toNat a else v)) st' with
        | none => none
        | some (.error e) => some (.error e)
        | some (.ok st'') => run ar k (.loop n body v (a + 1) b) st''
    else some (.ok st)

/-- the whole, with so much fuel -/
def unroll (k : Nat) (text : Str) : Option (Except Err (List Dr × Nat)) :=
  if 65536 < text.length then some (.error (65536, 150))
  else if headB (lines text) = false then some (.error (0, 295))
  else match readFrom st0 (lines text).tail with
    | .error e => some (.error e)
    | .ok r => match run r.ar k (.seq (nd r.ar 0).body noNums) {} with
      | none => none
      | some (.error e) => some (.error e)
      | some (.ok st) => some (.ok (st.steps, (headN (lines text)).toNat))
end Drl
