import Derived.Lib.SplitLaws
import Derived.Lib.TrimByte
import Derived.Lib.Strings
import Derived.Lib.ItoaNum
import Derived.Lib.Atoi

section
/- Plain words for the drill's proofs: lists of bytes, numbers; no program in sight. -/
namespace Drl
abbrev Str := List UInt8

/-- one of a to z -/
def isLet (c : UInt8) : Bool := decide (97 ≤ c.toNat) && decide (c.toNat ≤ 122)
def isDig (c : UInt8) : Bool := decide (48 ≤ c.toNat) && decide (c.toNat ≤ 57)
/-- a word of one letter -/
def letterB (s : Str) : Bool := match s with | [c] => isLet c | _ => false
def namedB (s : Str) : Bool := s.all isLet && (decide (1 ≤ s.length) && decide (s.length ≤ 12))
def numVal (s : Str) : Nat := s.foldl (fun n c => n * 10 + (c.toNat - 48)) 0
/-- one to six digits, the first of several not 0 -/
def numOk (s : Str) : Bool := decide (1 ≤ s.length) && decide (s.length ≤ 6) && !(decide (1 < s.length) && decide ((s.headD 0).toNat = 48)) && s.all isDig
theorem decFrom_foldl : ∀ (l : Str) (acc : Nat), l.all isDig = true → Go.Lib.decFrom acc l = some (l.foldl (fun n c => n * 10 + (c.toNat - 48)) acc)
  | [], _, _ => rfl
  | c :: r, acc, h => by
    simp only [List.all_cons, Bool.and_eq_true] at h
    have hc : 48 ≤ c.toNat ∧ c.toNat ≤ 57 := by simpa [isDig] using h.1
    simp only [Go.Lib.decFrom, Go.Lib.digitVal, hc, and_self, if_true, List.foldl_cons]
    exact decFrom_foldl r _ h.2
theorem atoi_numOk (s : Str) (h : numOk s = true) : Go.Lib.atoi s = some (numVal s : Int) := by
  simp only [numOk, Bool.and_eq_true, decide_eq_true_eq] at h
  obtain ⟨⟨⟨h1, _⟩, _⟩, h4⟩ := h
  cases s with
  | nil => simp at h1
  | cons c r =>
    have hc : 48 ≤ c.toNat ∧ c.toNat ≤ 57 := by
      simp only [List.all_cons, Bool.and_eq_true] at h4
      simpa [isDig] using h4.1
    have h45 : (c == 45) = false := by rw [beq_eq_false_iff_ne]; intro e; subst e; simp at hc
    have h43 : (c == 43) = false := by rw [beq_eq_false_iff_ne]; intro e; subst e; simp at hc
    simp only [Go.Lib.atoi, h45, h43, Go.Lib.decNat, List.isEmpty_cons, decFrom_foldl _ _ h4]
    rfl
theorem numVal_lt_aux : ∀ (l : Str) (acc : Nat), l.all isDig = true → l.foldl (fun n c => n * 10 + (c.toNat - 48)) acc < (acc + 1) * 10 ^ l.length
  | [], acc, _ => by simp
  | c :: r, acc, h => by
    simp only [List.all_cons, Bool.and_eq_true] at h
    have hc : 48 ≤ c.toNat ∧ c.toNat ≤ 57 := by simpa [isDig] using h.1
    simp only [List.foldl_cons, List.length_cons]
    refine Nat.lt_of_lt_of_le (numVal_lt_aux r _ h.2) ?_
    have h1 : acc * 10 + (c.toNat - 48) + 1 ≤ (acc + 1) * 10 := by omega
    have h2 := Nat.mul_le_mul_right (10 ^ r.length) h1
    rw [Nat.pow_succ, Nat.mul_comm (10 ^ r.length) 10, ← Nat.mul_assoc]
    exact h2
theorem numVal_lt (s : Str) (h : numOk s = true) : numVal s < 1000000 := by
  simp only [numOk, Bool.and_eq_true, decide_eq_true_eq] at h
  obtain ⟨⟨⟨_, h2⟩, _⟩, h4⟩ := h
  have := numVal_lt_aux s 0 h4
  have h10 : 10 ^ s.length ≤ 10 ^ 6 := Nat.pow_le_pow_right (by omega) h2
  unfold numVal
  omega
/-- what number answers -/
def numN (s : Str) : Int := if numOk s then numVal s else 0
def numB (s : Str) (most : Int) : Bool := numOk s && decide ((numVal s : Int) ≤ most)

/-- a text cut at each c -/
def cutAt (c : UInt8) : Str → List Str
  | [] => [[]]
  | x :: r => if x = c then [] :: cutAt c r else
    match cutAt c r with
    | w :: ws => (x :: w) :: ws
    | [] => [[x]]
def words (s : Str) : List Str := cutAt 32 s

theorem cutAt_ne (c : UInt8) : ∀ s, cutAt c s ≠ []
  | [] => by simp [cutAt]
  | x :: r => by
    unfold cutAt
    split
    · simp
    · split <;> simp

/-- the lines: cut at each line end; the last may lack it -/
def rawLines (s : Str) : List Str := if (cutAt 10 s).getLast (cutAt_ne 10 s) = [] then (cutAt 10 s).dropLast else cutAt 10 s
def trim (s : Str) : Str := s.dropWhile (· == 32)
/-- does it say something? -/
def says (t : Str) : Bool := match t with | [] => false | c :: _ => !decide (c.toNat = 35)

structure Ln where
  at_ : Nat
  text : Str
  ws : List Str
deriving DecidableEq
def mkLn (at_ : Nat) (t : Str) : Ln := ⟨at_, t, words t⟩
def linesFrom : Nat → List Str → List Ln
  | _, [] => []
  | i, s :: r => if says (trim s) then mkLn i (trim s) :: linesFrom (i + 1) r else linesFrom (i + 1) r
def lines (text : Str) : List Ln := linesFrom 0 (rawLines text)

def wd (ws : List Str) (i : Nat) : Str := ws.getD i []

/-- clients (the word) -/
def wClients : Str := [99, 108, 105, 101, 110, 116, 115]
def wEnd : Str := [101, 110, 100]
def wDef : Str := [100, 101, 102]
def wFor : Str := [102, 111, 114]
def wRepeat : Str := [114, 101, 112, 101, 97, 116]
def wUse : Str := [117, 115, 101]
def wExpect : Str := [101, 120, 112, 101, 99, 116]

def headN (l : List Ln) : Int := match l with | [] => 0 | x :: _ => if x.ws.length = 2 ∧ wd x.ws 0 = wClients then numN (wd x.ws 1) else 0
def headB (l : List Ln) : Bool := match l with | [] => false | x :: _ => decide (x.ws.length = 2 ∧ wd x.ws 0 = wClients) && (numB (wd x.ws 1) 64 && decide (0 < numN (wd x.ws 1)))

/-- a node of the tree, its children and what it uses by their numbers -/
structure Nd where
  at_ : Nat := 0
  text : Str := []
  ws : List Str := []
  letter : UInt8 := 0
  body : List Nat := []
  use : Option Nat := none

structure RSt where
  ar : List Nd
  opn : List Nat
  names : List (Str × Nat)

def look (names : List (Str × Nat)) (s : Str) : Option Nat := (names.find? (fun p => p.1 == s)).map (·.2)

def nd (ar : List Nd) (i : Nat) : Nd := ar.getD i {}

/-- does a letter stand for a number here? -/
def around (ar : List Nd) (opn : List Nat) (c : UInt8) : Bool := opn.any fun i => (nd ar i).letter == c
def countsB (ar : List Nd) (opn : List Nat) (s : Str) : Bool :=
  match s with
  | [d, c] => if d.toNat = 36 ∧ isLet c = true then around ar opn c else numB s 1000
  | _ => numB s 1000

/-- why a line cannot stand here (0: it can) -/
def wrongE (st : RSt) (x : Ln) : Nat :=
  if wd x.ws 0 = wDef then
    if x.ws.length ≠ 2 then 291
    else if 1 < st.opn.length then 290
    else if !namedB (wd x.ws 1) || (look st.names (wd x.ws 1)).isSome then 291 else 0
  else if wd x.ws 0 = wRepeat then
    if x.ws.length ≠ 2 || !countsB st.ar st.opn (wd x.ws 1) then 292 else 0
  else if wd x.ws 0 = wFor then
    if x.ws.length ≠ 4 || !letterB (wd x.ws 1) || around st.ar st.opn ((wd x.ws 1).headD 0) then 293
    else if !countsB st.ar st.opn (wd x.ws 2) || !countsB st.ar st.opn (wd x.ws 3) then 292 else 0
  else if wd x.ws 0 = wUse then
    if x.ws.length ≠ 2 || (look st.names (wd x.ws 1)).isNone then 291 else 0
  else 0

abbrev Err := Nat × Nat

def top (st : RSt) : Nat := st.opn.getLastD 0

def addTo (ar : List Nd) (i : Nat) (k : Nat) : List Nd := ar.modify i fun n => { n with body := n.body ++ [k] }

/-- one line is read -/
def readStep (st : RSt) (x : Ln) : Except Err RSt :=
  let n := st.ar.length
  let inn := top st
  let new : Nd := { at_ := x.at_, text := x.text, ws := x.ws }
  if x.text = wEnd then
    if inn = 0 then .error (x.at_, 290)
    else .ok { ar := st.ar ++ [new], opn := st.opn.dropLast, names := if wd (nd st.ar inn).ws 0 = wDef then st.names ++ [(wd (nd st.ar inn).ws 1, inn)] else st.names }
  else if wrongE st x ≠ 0 then .error (x.at_, wrongE st x)
  else if wd x.ws 0 = wDef then .ok { st with ar := st.ar ++ [new], opn := st.opn ++ [n] }
  else if wd x.ws 0 = wFor then .ok { st with ar := addTo (st.ar ++ [{ new with letter := (wd x.ws 1).headD 0 }]) inn n, opn := st.opn ++ [n] }
  else if wd x.ws 0 = wRepeat then .ok { st with ar := addTo (st.ar ++ [new]) inn n, opn := st.opn ++ [n] }
  else if wd x.ws 0 = wUse then .ok { st with ar := addTo (st.ar ++ [{ new with use := look st.names (wd x.ws 1) }]) inn n }
  else .ok { st with ar := addTo (st.ar ++ [new]) inn n }

def readFrom : RSt → List Ln → Except Err RSt
  | st, [] => if top st = 0 then .ok st else .error ((nd st.ar (top st)).at_, 290)
  | st, x :: r => match readStep st x with
    | .error e => .error e
    | .ok st' => readFrom st' r
def st0 : RSt := { ar := [{}], opn := [0], names := [] }

/-! ### going through -/

structure Dr where
  line : Nat
  text : Str
  want : Bool
deriving DecidableEq

structure PSt where
  steps : List Dr := []
  said : Bool := false
  turns : Nat := 0

abbrev Nums := Nat → Int
def noNums : Nums := fun _ => -1
def upd (v : Nums) (c : Nat) (k : Int) : Nums := fun i => if i = c then k else v i

/-- numbers put in for letters -/
def filled (v : Nums) : Str → Str
  | [] => []
  | [c] => [c]
  | d :: c :: r => if d.toNat = 36 ∧ c.toNat < 128 ∧ 0 ≤ v c.toNat then Go.Lib.decDigits (v c.toNat).toNat ++ filled v r else d :: filled v (c :: r)

def cnt (v : Nums) (s : Str) : Option Int := if numOk (filled v s) then some (numVal (filled v s)) else none

def turn (at_ : Nat) (st : PSt) : Except Err PSt := if st.turns = 65536 then .error (at_, 294) else .ok { st with turns := st.turns + 1 }

/-- the step that a line is -/
def drOf (n : Nd) (v : Nums) : Dr :=
  if wd n.ws 0 = wExpect then ⟨n.at_, filled v (Go.Lib.trimPrefix (n.text.drop 6) [32]), true⟩ else ⟨n.at_, filled v n.text, false⟩
def step (n : Nd) (v : Nums) (st : PSt) : Except Err PSt :=
  let x := drOf n v
  if x.want = true ∧ st.said = false then .error (n.at_, 296)
  else if st.steps.length = 4096 then .error (n.at_, 294)
  else .ok { st with steps := st.steps ++ [x], said := true }

inductive Task where
  | seq (l : List Nat) (v : Nums)
  | times (n : Nat) (body : List Nat) (v : Nums) (a b : Int)
  | loop (n : Nat) (body : List Nat) (v : Nums) (a b : Int)

/-- what a task comes to with so much fuel; none: too little, or a number that is none -/
def run (ar : List Nd) : Nat → Task → PSt → Option (Except Err PSt)
  | 0, _, _ => none
  | _ + 1, .seq [] _, st => some (.ok st)
  | k + 1, .seq (n :: l) v, st =>
    match (if wd (nd ar n).ws 0 = wRepeat then (cnt v (wd (nd ar n).ws 1)).bind fun c => run ar k (.times n (nd ar n).body v 1 c) st
      else if wd (nd ar n).ws 0 = wFor then (cnt v (wd (nd ar n).ws 2)).bind fun a => (cnt v (wd (nd ar n).ws 3)).bind fun b => run ar k (.times n (nd ar n).body v a b) st
      else if wd (nd ar n).ws 0 = wUse then (nd ar n).use.bind fun d => run ar k (.times n (nd ar d).body noNums 1 1) st
      else some (step (nd ar n) v st)) with
    | none => none
    | some (.error e) => some (.error e)
    | some (.ok st') => run ar k (.seq l v) st'
  | k + 1, .times n body v a b, st =>
    match turn (nd ar n).at_ st with
    | .error e => some (.error e)
    | .ok st' => run ar k (.loop n body v a b) st'
  | k + 1, .loop n body v a b, st =>
    if a ≤ b then
      match turn (nd ar n).at_ st with
      | .error e => some (.error e)
      | .ok st' =>
        match run ar k (.seq body (if (nd ar n).letter.toNat ≠ 0 then upd v (nd ar n).letter.toNat a else v)) st' with
        | none => none
        | some (.error e) => some (.error e)
        | some (.ok st'') => run ar k (.loop n body v (a + 1) b) st''
    else some (.ok st)

/-- the whole, with so much fuel -/
def unroll (k : Nat) (text : Str) : Option (Except Err (List Dr × Nat)) :=
  if 65536 < text.length then some (.error (65536, 150))
  else if headB (lines text) = false then some (.error (0, 295))
  else match readFrom st0 (lines text).tail with
    | .error e => some (.error e)
    | .ok r => match run r.ar k (.seq (nd r.ar 0).body noNums) {} with
      | none => none
      | some (.error e) => some (.error e)
      | some (.ok st) => some (.ok (st.steps, (headN (lines text)).toNat))
end Drl
end

section
/- More plain words for the drill's proofs: what filled gives, step by step. -/
namespace Drl

theorem decDigits_len : ∀ (k n : Nat), n < 10 ^ (k + 1) → (Go.Lib.decDigits n).length ≤ k + 1
  | 0, n, h => by
    rw [Go.Lib.decDigits, dif_pos (by simpa using h)]; simp
  | k + 1, n, h => by
    rw [Go.Lib.decDigits]
    split
    · simp
    · have := decDigits_len k (n / 10) (by rw [Nat.pow_succ] at h; omega)
      simp; omega

theorem filled_nil (v : Nums) : filled v [] = [] := by simp [filled]
theorem filled_plain (v : Nums) (d : UInt8) (r : Str) (h : d.toNat ≠ 36) : filled v (d :: r) = d :: filled v r := by
  cases r with
  | nil => simp [filled]
  | cons c r => simp [filled, h]
theorem filled_last (v : Nums) (d : UInt8) : filled v [d] = d :: filled v [] := by simp [filled]
theorem filled_not (v : Nums) (d c : UInt8) (r : Str) (h : ¬ (c.toNat < 128 ∧ 0 ≤ v c.toNat)) : filled v (d :: c :: r) = d :: filled v (c :: r) := by
  rw [filled, if_neg (fun e => h ⟨e.2.1, e.2.2⟩)]
theorem filled_put (v : Nums) (d c : UInt8) (r : Str) (h1 : d.toNat = 36) (h2 : c.toNat < 128) (h3 : 0 ≤ v c.toNat) : filled v (d :: c :: r) = Go.Lib.decDigits (v c.toNat).toNat ++ filled v r := by
  rw [filled, if_pos ⟨h1, h2, h3⟩]
end Drl
end

section
/- strings.Split at one space is cutting at each space. -/
namespace Drl
open Go

theorem index_cons_eq (c : UInt8) (l : Str) : Go.Lib.index (c :: l) [c] = 0 := by
  have := Go.Lib.index_hit (s := c :: l) (sub := [c]) (i := 0) (Go.Lib.NoOcc.zero _ _) (Nat.zero_le _) (by simp [Go.Lib.occAt])
  simpa using this
theorem index_cons_ne (b c : UInt8) (l : Str) (h : b ≠ c) : Go.Lib.index (b :: l) [c] = if Go.Lib.index l [c] == -1 then -1 else Go.Lib.index l [c] + 1 := by
  have hn : Go.Lib.NoOcc (b :: l) [c] 1 := by
    intro j hj
    have : j = 0 := by omega
    subst this
    simp [Go.Lib.occAt, List.isPrefixOf, Ne.symm h]
  have := Go.Lib.index_drop hn (by simp)
  simpa using this

theorem splitK_words (c : UInt8) : ∀ (s : Str), Go.Lib.splitK [c] 0 (Go.Lib.count s [c]) s = cutAt c s
  | [] => by simp [Go.Lib.count_one, Go.Lib.splitK, cutAt]
  | b :: l => by
    have ih := splitK_words c l
    by_cases h : b = c
    · subst h
      rw [Go.Lib.count_cons_eq, Nat.add_comm, Go.Lib.splitK, index_cons_eq]
      simp [cutAt, ih]
    · rw [Go.Lib.count_cons_ne b c l h]
      simp only [cutAt, if_neg h]
      rw [← ih]
      cases hk : Go.Lib.count l [c] with
      | zero => simp [Go.Lib.splitK]
      | succ k =>
        simp only [Go.Lib.splitK, index_cons_ne b c l h]
        rcases Go.Lib.index_spec l [c] with ⟨hi, _⟩ | ⟨i, hi, _⟩
        · simp [hi]
        · have h1 : ((i : Int) == -1) = false := by rw [beq_eq_false_iff_ne]; omega
          have h2 : (((i : Int) + 1 : Int) == -1) = false := by rw [beq_eq_false_iff_ne]; omega
          have h3 : ((i : Int) + 1).toNat = i + 1 := by omega
          rw [hi]
          simp only [h1, h2, h3, Bool.false_eq_true, if_false, Int.toNat_natCast, Nat.add_zero, List.length_cons, List.length_nil, Nat.zero_add, List.take_succ_cons, List.drop_succ_cons]
theorem split_words (s : ByteArray) : (Go.Lib.splitB ⟨#[32]⟩ 0 (Go.Lib.countB s ⟨#[32]⟩) s).map (·.data.toList) = words s.data.toList := by
  rw [Go.Lib.splitB_data]
  exact splitK_words 32 s.data.toList
theorem words_ne (s : Str) : words s ≠ [] := cutAt_ne 32 s
end Drl
end

section
/- Lines of a text, cut one after the other. -/
namespace Drl

theorem cutAt_no (c : UInt8) : ∀ (a : Str), (∀ x ∈ a, x ≠ c) → cutAt c a = [a]
  | [], _ => rfl
  | x :: r, h => by
    have h1 := h x (by simp)
    rw [cutAt, if_neg h1, cutAt_no c r (fun y hy => h y (by simp [hy]))]
theorem cutAt_hit (c : UInt8) (b : Str) : ∀ (a : Str), (∀ x ∈ a, x ≠ c) → cutAt c (a ++ c :: b) = a :: cutAt c b
  | [], _ => by simp [cutAt]
  | x :: r, h => by
    have h1 := h x (by simp)
    rw [List.cons_append, cutAt, if_neg h1, cutAt_hit c b r (fun y hy => h y (by simp [hy]))]

theorem rawLines_hit (a b : Str) (h : ∀ x ∈ a, x ≠ 10) : rawLines (a ++ 10 :: b) = a :: rawLines b := by
  unfold rawLines
  have e := cutAt_hit 10 b a h
  have hl : (cutAt 10 (a ++ 10 :: b)).getLast (cutAt_ne 10 _) = (cutAt 10 b).getLast (cutAt_ne 10 b) := by
    simp only [e]
    exact List.getLast_cons (cutAt_ne 10 b)
  rw [hl, e]
  split
  · rw [List.dropLast_cons_of_ne_nil (cutAt_ne 10 b)]
  · rfl
theorem rawLines_end (a : Str) (h : ∀ x ∈ a, x ≠ 10) : rawLines a = if a = [] then [] else [a] := by
  unfold rawLines
  have e := cutAt_no 10 a h
  simp only [e, List.getLast_singleton, List.dropLast_singleton]
end Drl
end

section
/- What holds of the blocks while a drill is read. -/
namespace Drl

theorem addTo_get (ar : List Nd) (i k j : Nat) : (addTo ar i k)[j]? = (ar[j]?).map fun n => if j = i then { n with body := n.body ++ [k] } else n := by
  unfold addTo
  rw [List.getElem?_modify]
  cases h : ar[j]? with
  | none => rfl
  | some n =>
    by_cases e : i = j
    · subst e; simp
    · simp [e, Ne.symm e]
theorem addTo_len (ar : List Nd) (i k : Nat) : (addTo ar i k).length = ar.length := by simp [addTo]
theorem nd_get {ar : List Nd} {i : Nat} {n : Nd} (h : ar[i]? = some n) : nd ar i = n := by simp [nd, List.getD_eq_getElem?_getD, h]
theorem get_nd {ar : List Nd} {i : Nat} (h : i < ar.length) : ar[i]? = some (nd ar i) := by simp [nd, List.getD_eq_getElem?_getD, List.getElem?_eq_getElem h]
theorem nd_append {ar : List Nd} {x : Nd} {i : Nat} (h : i < ar.length) : nd (ar ++ [x]) i = nd ar i := by simp [nd, List.getD_eq_getElem?_getD, List.getElem?_append_left h]
theorem nd_last (ar : List Nd) (x : Nd) : nd (ar ++ [x]) ar.length = x := by simp [nd, List.getD_eq_getElem?_getD]
theorem nd_addTo {ar : List Nd} {i k j : Nat} (h : j < ar.length) : nd (addTo ar i k) j = if j = i then { nd ar j with body := (nd ar j).body ++ [k] } else nd ar j := by
  rw [nd_get (n := if j = i then { nd ar j with body := (nd ar j).body ++ [k] } else nd ar j)]
  rw [addTo_get, get_nd h]; rfl
theorem nd_addTo_ws {ar : List Nd} {i k j : Nat} (h : j < ar.length) : (nd (addTo ar i k) j).ws = (nd ar j).ws := by
  rw [nd_addTo h]; split <;> rfl

/-- what holds while a drill is read -/
structure Inv (st : RSt) : Prop where
  opn0 : ∃ t, st.opn = 0 :: t ∧ 0 ∉ t
  opnlt : ∀ i ∈ st.opn, i < st.ar.length
  ws : ∀ i, 0 < i → i < st.ar.length → 1 ≤ (nd st.ar i).ws.length ∧ ∀ t ∈ (nd st.ar i).ws, t.length ≤ 65536
  bodylt : ∀ i, i < st.ar.length → ∀ k ∈ (nd st.ar i).body, k < st.ar.length
  uselt : ∀ i, i < st.ar.length → ∀ d, (nd st.ar i).use = some d → d < st.ar.length
  namelt : ∀ p ∈ st.names, p.2 < st.ar.length
  defs : ∀ i ∈ st.opn, i ≠ 0 → wd (nd st.ar i).ws 0 = wDef → (nd st.ar i).ws.length = 2 ∧ look st.names (wd (nd st.ar i).ws 1) = none
  defpos : ∀ k, 2 ≤ k → ∀ i, st.opn[k]? = some i → wd (nd st.ar i).ws 0 ≠ wDef

theorem Inv.pos {st : RSt} (h : Inv st) : 0 < st.ar.length := by
  obtain ⟨t, ht, _⟩ := h.opn0
  exact h.opnlt 0 (by rw [ht]; simp)
theorem Inv.ne {st : RSt} (h : Inv st) : st.opn ≠ [] := by
  obtain ⟨t, ht, _⟩ := h.opn0
  rw [ht]; simp
theorem top_eq {st : RSt} (h : st.opn ≠ []) : top st = st.opn.getLast h := by
  simp [top, List.getLastD_eq_getLast?, List.getLast?_eq_some_getLast h]
theorem top_at {st : RSt} (h : st.opn ≠ []) : st.opn[st.opn.length - 1]? = some (top st) := by
  rw [top_eq h, List.getLast_eq_getElem]
  exact List.getElem?_eq_getElem _
theorem Inv.top_mem {st : RSt} (h : Inv st) : top st ∈ st.opn := by
  rw [top_eq h.ne]
  exact List.getLast_mem h.ne
theorem Inv.top_lt {st : RSt} (h : Inv st) : top st < st.ar.length := h.opnlt _ h.top_mem
theorem Inv.start : Inv st0 := by
  refine ⟨⟨[], rfl, by simp⟩, ?_, ?_, ?_, ?_, ?_, ?_, ?_⟩
  · intro i hi; simp [st0] at hi ⊢; omega
  · intro i h1 h2; simp [st0] at h2; omega
  · intro i hi k hk
    have : i = 0 := by simp [st0] at hi; omega
    subst this
    simp [st0, nd] at hk
  · intro i hi d hd
    have : i = 0 := by simp [st0] at hi; omega
    subst this
    simp [st0, nd] at hd
  · intro p hp; simp [st0] at hp
  · intro i hi h0; simp [st0] at hi; exact absurd hi h0
  · intro k hk i hi
    have : st0.opn[k]? = none := List.getElem?_eq_none (by simp [st0]; omega)
    rw [this] at hi; cases hi

/-- a new node, in no list yet -/
theorem Inv.push {st : RSt} (h : Inv st) (x : Nd) (h1 : 1 ≤ x.ws.length) (h2 : ∀ t ∈ x.ws, t.length ≤ 65536) (hb : x.body = []) (hu : ∀ d, x.use = some d → d < st.ar.length) : Inv { st with ar := st.ar ++ [x] } := by
  have hlt : ∀ {i}, i < (st.ar ++ [x]).length → i = st.ar.length ∨ i < st.ar.length := fun hi => by simp at hi; omega
  refine ⟨h.opn0, fun i hi => by have := h.opnlt i hi; simp; omega, ?_, ?_, ?_, fun p hp => by have := h.namelt p hp; simp; omega, ?_, ?_⟩
  · intro i h0 hi
    rcases hlt hi with rfl | hi
    · rw [nd_last]; exact ⟨h1, h2⟩
    · rw [nd_append hi]; exact h.ws i h0 hi
  · intro i hi k hk
    rcases hlt hi with rfl | hi
    · rw [nd_last, hb] at hk; cases hk
    · rw [nd_append hi] at hk; have := h.bodylt i hi k hk; simp; omega
  · intro i hi d hd
    rcases hlt hi with rfl | hi
    · rw [nd_last] at hd; have := hu d hd; simp; omega
    · rw [nd_append hi] at hd; have := h.uselt i hi d hd; simp; omega
  · intro i hi h0 hw
    have := h.opnlt i hi
    rw [nd_append this] at hw ⊢
    exact h.defs i hi h0 hw
  · intro k hk i hi
    have := h.opnlt i (List.mem_of_getElem? hi)
    simp only [nd_append this]
    exact h.defpos k hk i hi
theorem Inv.add {st : RSt} (h : Inv st) (i k : Nat) (hk : k < st.ar.length) : Inv { st with ar := addTo st.ar i k } := by
  refine ⟨h.opn0, fun j hj => by rw [addTo_len]; exact h.opnlt j hj, ?_, ?_, ?_, fun p hp => by rw [addTo_len]; exact h.namelt p hp, ?_, ?_⟩
  · intro j h0 hj
    rw [addTo_len] at hj
    rw [nd_addTo_ws hj]; exact h.ws j h0 hj
  · intro j hj m hm
    rw [addTo_len] at hj ⊢
    rw [nd_addTo hj] at hm
    split at hm
    · simp only [List.mem_append, List.mem_singleton] at hm
      rcases hm with hm | rfl
      · exact h.bodylt j hj m hm
      · exact hk
    · exact h.bodylt j hj m hm
  · intro j hj d hd
    rw [addTo_len] at hj ⊢
    rw [nd_addTo hj] at hd
    split at hd <;> exact h.uselt j hj d hd
  · intro j hj h0 hw
    have := h.opnlt j hj
    rw [nd_addTo_ws this] at hw ⊢
    exact h.defs j hj h0 hw
  · intro m hm j hj
    have := h.opnlt j (List.mem_of_getElem? hj)
    simp only [nd_addTo_ws this]
    exact h.defpos m hm j hj
/-- a node is opened -/
theorem Inv.open_ {st : RSt} (h : Inv st) (n : Nat) (hn : n < st.ar.length) (h0 : n ≠ 0)
    (hd : wd (nd st.ar n).ws 0 = wDef → st.opn.length ≤ 1 ∧ (nd st.ar n).ws.length = 2 ∧ look st.names (wd (nd st.ar n).ws 1) = none) : Inv { st with opn := st.opn ++ [n] } := by
  obtain ⟨t, ht, h0t⟩ := h.opn0
  refine ⟨⟨t ++ [n], by simp [ht], by simp [h0t, Ne.symm h0]⟩, ?_, h.ws, h.bodylt, h.uselt, h.namelt, ?_, ?_⟩
  · intro i hi
    simp only [List.mem_append, List.mem_singleton] at hi
    rcases hi with hi | rfl
    · exact h.opnlt i hi
    · exact hn
  · intro i hi h1 hw
    simp only [List.mem_append, List.mem_singleton] at hi
    rcases hi with hi | rfl
    · exact h.defs i hi h1 hw
    · exact (hd hw).2
  · intro k hk i hi
    by_cases e : k < st.opn.length
    · exact h.defpos k hk i (by simpa [List.getElem?_append_left e] using hi)
    · have e2 : k = st.opn.length := by
        have := (List.getElem?_eq_some_iff.1 hi).1
        simp at this; omega
      subst e2
      simp at hi
      subst hi
      intro hw
      have := (hd hw).1
      omega
/-- the last that is open is closed -/
theorem Inv.close {st : RSt} (h : Inv st) (ht0 : top st ≠ 0) (names : List (Str × Nat))
    (hn : names = if wd (nd st.ar (top st)).ws 0 = wDef then st.names ++ [(wd (nd st.ar (top st)).ws 1, top st)] else st.names) :
    Inv { st with opn := st.opn.dropLast, names := names } := by
  obtain ⟨t, ht, h0t⟩ := h.opn0
  have htne : t ≠ [] := by
    rintro rfl
    exact ht0 (by simp [top, ht])
  have hsub : ∀ i ∈ st.opn.dropLast, i ∈ st.opn := fun i hi => List.dropLast_subset _ hi
  refine ⟨⟨t.dropLast, ?_, fun hh => h0t (List.dropLast_subset _ hh)⟩, fun i hi => h.opnlt i (hsub i hi), h.ws, h.bodylt, h.uselt, ?_, ?_, ?_⟩
  · simp only [ht]; rw [List.dropLast_cons_of_ne_nil htne]
  · intro p hp
    rw [hn] at hp
    split at hp
    · simp only [List.mem_append, List.mem_singleton] at hp
      rcases hp with hp | rfl
      · exact h.namelt p hp
      · exact h.top_lt
    · exact h.namelt p hp
  · intro i hi h1 hw
    obtain ⟨h2, h3⟩ := h.defs i (hsub i hi) h1 hw
    refine ⟨h2, ?_⟩
    rw [hn]
    split
    · rename_i htd
      -- the last is a def: it stands behind the whole alone
      exfalso
      have hlen : st.opn.length ≤ 2 := by
        rcases Nat.lt_or_ge 2 st.opn.length with h' | h'
        · exact absurd htd (h.defpos _ (by omega) _ (top_at h.ne))
        · exact h'
      rw [ht] at hi hlen
      match t, htne, hlen with
      | [a], _, _ => simp at hi; exact h1 hi
      | _ :: _ :: _, _, hlen => simp at hlen
    · exact h3
  · intro k hk i hi
    refine h.defpos k hk i ?_
    have hlt := (List.getElem?_eq_some_iff.1 hi).1
    rw [List.length_dropLast] at hlt
    rw [List.getElem?_dropLast] at hi
    simpa [hlt] using hi
end Drl
end

section
/-! what the lines are like; no program in sight -/
/-! what the lines are like; no program in sight -/
namespace Drl

theorem cutAt_len (c : UInt8) : ∀ s : Str, (cutAt c s).length ≤ s.length + 1
  | [] => by simp [cutAt]
  | x :: r => by
    have ih := cutAt_len c r
    unfold cutAt
    split
    · simp; omega
    · split
      · next h => rw [h] at ih; simp at ih ⊢; omega
      · simp
theorem cutAt_mem (c : UInt8) : ∀ (s : Str), ∀ t ∈ cutAt c s, t.length ≤ s.length
  | [], t, h => by simp [cutAt] at h; subst h; simp
  | x :: r, t, h => by
    have ih := cutAt_mem c r
    unfold cutAt at h
    split at h
    · rcases List.mem_cons.1 h with rfl | h
      · simp
      · have := ih t h; simp; omega
    · split at h
      · next w ws e =>
        rcases List.mem_cons.1 h with rfl | h
        · have := ih w (by rw [e]; simp); simp; omega
        · have := ih t (by rw [e]; simp [h]); simp; omega
      · simp at h; subst h; simp
theorem cutAt_last (c : UInt8) : ∀ (s : Str), (cutAt c s).getLast (cutAt_ne c s) ≠ [] → (cutAt c s).length ≤ s.length
  | [], h => by simp [cutAt] at h
  | x :: r, h => by
    have ih := cutAt_last c r
    have hl := cutAt_len c r
    by_cases e : x = c
    · have e1 : cutAt c (x :: r) = [] :: cutAt c r := by simp [cutAt, e]
      simp only [e1] at h ⊢
      rw [List.getLast_cons (cutAt_ne c r)] at h
      have := ih h
      simp; omega
    · cases hc : cutAt c r with
      | nil => exact absurd hc (cutAt_ne c r)
      | cons w ws =>
        have e1 : cutAt c (x :: r) = (x :: w) :: ws := by simp [cutAt, e, hc]
        simp only [e1] at h ⊢
        rw [hc] at hl
        simp at hl ⊢
        omega
theorem rawLines_len (s : Str) : (rawLines s).length ≤ s.length := by
  unfold rawLines
  split
  · rw [List.length_dropLast]; have := cutAt_len 10 s; omega
  · next h => exact cutAt_last 10 s h
theorem rawLines_mem (s : Str) : ∀ t ∈ rawLines s, t.length ≤ s.length := by
  intro t h
  unfold rawLines at h
  split at h
  · exact cutAt_mem 10 s t (List.dropLast_subset _ h)
  · exact cutAt_mem 10 s t h

/-- a line as it is cut out of a text of at most L bytes -/
structure LnOk (L : Nat) (x : Ln) : Prop where
  ws : x.ws = words x.text
  len : x.text.length ≤ L
  at_ : x.at_ < L

theorem linesFrom_ok (L : Nat) : ∀ (l : List Str) (i : Nat), (∀ t ∈ l, t.length ≤ L) → i + l.length ≤ L → (linesFrom i l).length ≤ l.length ∧ ∀ x ∈ linesFrom i l, LnOk L x
  | [], i, _, _ => by simp [linesFrom]
  | s :: r, i, hm, hl => by
    have ih := linesFrom_ok L r (i + 1) (fun t ht => hm t (by simp [ht])) (by simp at hl; omega)
    unfold linesFrom
    split
    · refine ⟨by simp; exact ih.1, fun x hx => ?_⟩
      rcases List.mem_cons.1 hx with rfl | hx
      · refine ⟨rfl, ?_, by simp only [mkLn]; simp at hl; omega⟩
        have h1 : (trim s).length ≤ s.length := (List.dropWhile_sublist _).length_le
        have h2 := hm s (by simp)
        simp only [mkLn]; omega
      · exact ih.2 x hx
    · exact ⟨by simp; omega, ih.2⟩
theorem lines_ok (s : Str) : (lines s).length ≤ s.length ∧ ∀ x ∈ lines s, LnOk s.length x := by
  have h := linesFrom_ok s.length (rawLines s) 0 (rawLines_mem s) (by have := rawLines_len s; omega)
  exact ⟨Nat.le_trans h.1 (rawLines_len s), h.2⟩
theorem words_pos (s : Str) : 1 ≤ (words s).length := by
  have := cutAt_ne 32 s
  cases h : cutAt 32 s with
  | nil => exact absurd h this
  | cons a l => simp [words, h]
theorem LnOk.small {L : Nat} {x : Ln} (h : LnOk L x) : 1 ≤ x.ws.length ∧ (∀ t ∈ x.ws, t.length ≤ L) ∧ x.at_ ≤ L := by
  refine ⟨by rw [h.ws]; exact words_pos _, fun t ht => ?_, Nat.le_of_lt h.at_⟩
  rw [h.ws] at ht
  have := cutAt_mem 32 x.text t ht
  have := h.len
  omega
/-- the first word is a beginning -/
theorem words_head (s : Str) : (wd (words s) 0).length ≤ s.length := by
  have := words_pos s
  have hm : wd (words s) 0 ∈ words s := by
    unfold wd
    rw [List.getD_eq_getElem?_getD, List.getElem?_eq_getElem (by omega)]
    simp
  exact cutAt_mem 32 s _ hm
end Drl
end

section
/-! what reading leaves is good to be gone through; no program in sight -/
/-! what reading leaves is good to be gone through; no program in sight -/
namespace Drl

/-- a node that may stand in a list -/
structure Kind (n : Nd) : Prop where
  ws : 1 ≤ n.ws.length
  small : ∀ t ∈ n.ws, t.length ≤ 65536
  rep : wd n.ws 0 = wRepeat → n.ws.length = 2
  for_ : wd n.ws 0 = wFor → n.ws.length = 4
  use : wd n.ws 0 = wUse → ∃ d, n.use = some d
  exp : wd n.ws 0 = wExpect → 6 ≤ n.text.length
  text : n.text.length ≤ 65536

structure GoodAr (ar : List Nd) : Prop where
  pos : 0 < ar.length
  body : ∀ i, i < ar.length → ∀ n ∈ (nd ar i).body, n < ar.length ∧ Kind (nd ar n)
  uselt : ∀ i, i < ar.length → ∀ d, (nd ar i).use = some d → d < ar.length
  blen : ∀ i, i < ar.length → (nd ar i).body.length + 1 ≤ ar.length
  letter : ∀ i, i < ar.length → (nd ar i).letter.toNat < 128

theorem GoodAr.start : GoodAr st0.ar := by
  have hz : ∀ {i}, i < st0.ar.length → i = 0 := fun h => by simp [st0] at h; omega
  refine ⟨by decide, ?_, ?_, ?_, ?_⟩
  · intro i hi n hn; obtain rfl := hz hi; simp [st0, nd] at hn
  · intro i hi d hd; obtain rfl := hz hi; simp [st0, nd] at hd
  · intro i hi; obtain rfl := hz hi; simp [st0, nd]
  · intro i hi; obtain rfl := hz hi; decide

theorem snoc_lt {ar : List Nd} {x : Nd} {i : Nat} (h : i < (ar ++ [x]).length) : i = ar.length ∨ i < ar.length := by simp at h; omega

theorem GoodAr.push {ar : List Nd} (h : GoodAr ar) (x : Nd) (hb : x.body = []) (hl : x.letter.toNat < 128) (hu : ∀ d, x.use = some d → d < ar.length) : GoodAr (ar ++ [x]) := by
  refine ⟨by simp, ?_, ?_, ?_, ?_⟩
  · intro i hi n hn
    rcases snoc_lt hi with rfl | hi
    · rw [nd_last, hb] at hn; cases hn
    · rw [nd_append hi] at hn
      obtain ⟨h1, h2⟩ := h.body i hi n hn
      exact ⟨by simp; omega, by rw [nd_append h1]; exact h2⟩
  · intro i hi d hd
    rcases snoc_lt hi with rfl | hi
    · rw [nd_last] at hd; have := hu d hd; simp; omega
    · rw [nd_append hi] at hd; have := h.uselt i hi d hd; simp; omega
  · intro i hi
    rcases snoc_lt hi with rfl | hi
    · rw [nd_last, hb]; simp
    · rw [nd_append hi]; have := h.blen i hi; simp; omega
  · intro i hi
    rcases snoc_lt hi with rfl | hi
    · rw [nd_last]; exact hl
    · rw [nd_append hi]; exact h.letter i hi

theorem Kind.addTo {ar : List Nd} {i k j : Nat} (h : Kind (nd ar j)) (hj : j < ar.length) : Kind (nd (addTo ar i k) j) := by
  rw [nd_addTo hj]
  split
  · exact ⟨h.ws, h.small, h.rep, h.for_, h.use, h.exp, h.text⟩
  · exact h

theorem GoodAr.join {ar : List Nd} (h : GoodAr ar) (x : Nd) (hk : Kind x) (hb : x.body = []) (hl : x.letter.toNat < 128) (hu : ∀ d, x.use = some d → d < ar.length) (i : Nat) (hi : i < ar.length) : GoodAr (addTo (ar ++ [x]) i ar.length) := by
  have g := h.push x hb hl hu
  have hL : ar.length < (ar ++ [x]).length := by simp
  refine ⟨by rw [addTo_len]; exact g.pos, ?_, ?_, ?_, ?_⟩
  · intro j hj n hn
    rw [addTo_len] at hj ⊢
    rw [nd_addTo hj] at hn
    have key : n ∈ (nd (ar ++ [x]) j).body ∨ n = ar.length := by
      split at hn
      · simp only [List.mem_append, List.mem_singleton] at hn; exact hn
      · exact .inl hn
    rcases key with h1 | rfl
    · obtain ⟨h2, h3⟩ := g.body j hj n h1
      exact ⟨h2, h3.addTo h2⟩
    · exact ⟨hL, Kind.addTo (by rw [nd_last]; exact hk) hL⟩
  · intro j hj d hd
    rw [addTo_len] at hj ⊢
    rw [nd_addTo hj] at hd
    have : (nd (ar ++ [x]) j).use = some d := by split at hd <;> exact hd
    exact g.uselt j hj d this
  · intro j hj
    rw [addTo_len] at hj ⊢
    rw [nd_addTo hj]
    split
    · next e =>
      subst e
      have := h.blen j hi
      simp only [List.length_append, List.length_singleton, nd_append hi]
      omega
    · exact g.blen j hj
  · intro j hj
    rw [addTo_len] at hj
    rw [nd_addTo hj]
    have := g.letter j hj
    split <;> exact this

theorem wrongE_rep {st : RSt} {x : Ln} (h : wrongE st x = 0) (q : wd x.ws 0 = wRepeat) : x.ws.length = 2 := by
  unfold wrongE at h
  rw [if_neg (by rw [q]; decide), if_pos q] at h
  split at h
  · cases h
  · next hn =>
    simp only [Bool.or_eq_true, not_or, decide_eq_true_eq, Decidable.not_not] at hn
    exact hn.1
theorem wrongE_four {st : RSt} {x : Ln} (h : wrongE st x = 0) (q : wd x.ws 0 = wFor) : x.ws.length = 4 ∧ letterB (wd x.ws 1) = true := by
  unfold wrongE at h
  rw [if_neg (by rw [q]; decide), if_neg (by rw [q]; decide), if_pos q] at h
  split at h
  · cases h
  · next hn =>
    simp only [Bool.or_eq_true, not_or, Bool.not_eq_true', decide_eq_true_eq, Decidable.not_not, Bool.not_eq_true] at hn
    exact ⟨hn.1.1, by simpa using hn.1.2⟩
theorem wrongE_known {st : RSt} {x : Ln} (h : wrongE st x = 0) (q : wd x.ws 0 = wUse) : ∃ i, look st.names (wd x.ws 1) = some i := by
  unfold wrongE at h
  rw [if_neg (by rw [q]; decide), if_neg (by rw [q]; decide), if_neg (by rw [q]; decide), if_pos q] at h
  split at h
  · cases h
  · next hn =>
    simp only [Bool.or_eq_true, not_or, decide_eq_true_eq, Decidable.not_not] at hn
    cases e : look st.names (wd x.ws 1) with
    | none => rw [e] at hn; simp at hn
    | some i => exact ⟨i, rfl⟩
theorem look_mem {names : List (Str × Nat)} {n i : Nat} {s : Str} (h : ∀ p ∈ names, p.2 < n) (hi : look names s = some i) : i < n := by
  unfold look at hi
  obtain ⟨p, hp, rfl⟩ := Option.map_eq_some_iff.1 hi
  exact h p (List.mem_of_find?_eq_some hp)
theorem letterB_lt {s : Str} (h : letterB s = true) : (s.headD 0).toNat < 128 := by
  match s, h with
  | [c], h => simp [letterB, isLet] at h; simp; omega

/-- what is known of the reader between two lines -/
structure RGood (st : RSt) : Prop where
  good : GoodAr st.ar
  inv : Inv st

theorem kind_of {L : Nat} (hL : L ≤ 65536) {st : RSt} {x : Ln} (h : LnOk L x) (hw : wrongE st x = 0) (n : Nd) (e1 : n.ws = x.ws) (e2 : n.text = x.text) (hu : wd x.ws 0 = wUse → ∃ d, n.use = some d) : Kind n := by
  have hs := h.small
  refine ⟨by rw [e1]; exact hs.1, fun t ht => ?_, fun q => ?_, fun q => ?_, fun q => hu (by rw [← e1]; exact q), fun q => ?_, ?_⟩
  · rw [e1] at ht; have := hs.2.1 t ht; omega
  · rw [e1] at q ⊢; exact wrongE_rep hw q
  · rw [e1] at q ⊢; exact (wrongE_four hw q).1
  · rw [e1, h.ws] at q
    have := words_head x.text
    rw [q] at this
    rw [e2]
    exact this
  · rw [e2]; have := h.len; omega
end Drl
end

section
namespace Drl

theorem wrongE_def {st : RSt} {x : Ln} (h : wrongE st x = 0) (q : wd x.ws 0 = wDef) : x.ws.length = 2 ∧ st.opn.length ≤ 1 ∧ look st.names (wd x.ws 1) = none := by
  simp only [wrongE, q, if_true] at h
  have d1 : x.ws.length = 2 := by
    by_cases e : x.ws.length = 2
    · exact e
    · rw [if_pos e] at h; cases h
  rw [if_neg (by omega)] at h
  have d2 : ¬ 1 < st.opn.length := fun e => by rw [if_pos e] at h; cases h
  rw [if_neg d2] at h
  refine ⟨d1, Nat.not_lt.1 d2, ?_⟩
  cases e : look st.names (wd x.ws 1) with
  | none => rfl
  | some _ => rw [e] at h; simp at h

theorem nd_addTo_last {ar : List Nd} {x : Nd} {i : Nat} : (nd (addTo (ar ++ [x]) i ar.length) ar.length).ws = x.ws := by
  rw [nd_addTo_ws (by simp), nd_last]

theorem RGood.step {st st' : RSt} {x : Ln} {L : Nat} (hL : L ≤ 65536) (h : RGood st) (hx : LnOk L x) (hs : readStep st x = .ok st') : RGood st' := by
  have hsm := hx.small
  have hws : 1 ≤ x.ws.length := hsm.1
  have hwl : ∀ t ∈ x.ws, t.length ≤ 65536 := fun t ht => by have := hsm.2.1 t ht; omega
  have htop := h.inv.top_lt
  have hpos := h.inv.pos
  unfold readStep at hs
  dsimp only at hs
  by_cases he : x.text = wEnd
  · rw [if_pos he] at hs
    by_cases ht : top st = 0
    · rw [if_pos ht] at hs; cases hs
    · rw [if_neg ht] at hs
      obtain rfl := Except.ok.inj hs
      refine ⟨h.good.push _ rfl (by show (0 : UInt8).toNat < 128; decide) (fun d hd => by cases hd), ?_⟩
      have hp := h.inv.push { at_ := x.at_, text := x.text, ws := x.ws } hws hwl rfl (fun d hd => by cases hd)
      refine hp.close (by exact ht) _ ?_
      have e1 : top { ar := st.ar ++ [{ at_ := x.at_, text := x.text, ws := x.ws }], opn := st.opn, names := st.names } = top st := rfl
      rw [e1, nd_append htop]
  rw [if_neg he] at hs
  by_cases hw0 : wrongE st x ≠ 0
  · rw [if_pos hw0] at hs; cases hs
  rw [if_neg hw0] at hs
  have hw : wrongE st x = 0 := by omega
  by_cases q1 : wd x.ws 0 = wDef
  · rw [if_pos q1] at hs
    obtain rfl := Except.ok.inj hs
    obtain ⟨d1, d2, d3⟩ := wrongE_def hw q1
    refine ⟨h.good.push _ rfl (by show (0 : UInt8).toNat < 128; decide) (fun d hd => by cases hd), ?_⟩
    have hp := h.inv.push { at_ := x.at_, text := x.text, ws := x.ws } hws hwl rfl (fun d hd => by cases hd)
    exact hp.open_ st.ar.length (by simp) (by omega) (fun _ => ⟨d2, by rw [nd_last]; exact d1, by rw [nd_last]; exact d3⟩)
  rw [if_neg q1] at hs
  by_cases q2 : wd x.ws 0 = wFor
  · rw [if_pos q2] at hs
    obtain rfl := Except.ok.inj hs
    have hk := kind_of hL hx hw { at_ := x.at_, text := x.text, ws := x.ws, letter := (wd x.ws 1).headD 0 } rfl rfl (fun q => by rw [q2] at q; exact absurd q (by decide))
    have hl := letterB_lt (wrongE_four hw q2).2
    refine ⟨h.good.join _ hk rfl hl (fun d hd => by cases hd) _ htop, ?_⟩
    have hp := h.inv.push { at_ := x.at_, text := x.text, ws := x.ws, letter := (wd x.ws 1).headD 0 } hws hwl rfl (fun d hd => by cases hd)
    have ha := hp.add (top st) st.ar.length (by simp)
    exact ha.open_ st.ar.length (by rw [addTo_len]; simp) (by omega) (fun q => by rw [nd_addTo_last] at q; rw [q2] at q; exact absurd q (by decide))
  rw [if_neg q2] at hs
  by_cases q3 : wd x.ws 0 = wRepeat
  · rw [if_pos q3] at hs
    obtain rfl := Except.ok.inj hs
    have hk := kind_of hL hx hw { at_ := x.at_, text := x.text, ws := x.ws } rfl rfl (fun q => by rw [q3] at q; exact absurd q (by decide))
    refine ⟨h.good.join _ hk rfl (by show (0 : UInt8).toNat < 128; decide) (fun d hd => by cases hd) _ htop, ?_⟩
    have hp := h.inv.push { at_ := x.at_, text := x.text, ws := x.ws } hws hwl rfl (fun d hd => by cases hd)
    have ha := hp.add (top st) st.ar.length (by simp)
    exact ha.open_ st.ar.length (by rw [addTo_len]; simp) (by omega) (fun q => by rw [nd_addTo_last] at q; rw [q3] at q; exact absurd q (by decide))
  rw [if_neg q3] at hs
  by_cases q4 : wd x.ws 0 = wUse
  · rw [if_pos q4] at hs
    obtain rfl := Except.ok.inj hs
    obtain ⟨i, hi⟩ := wrongE_known hw q4
    have hil := look_mem h.inv.namelt hi
    have hk := kind_of hL hx hw { at_ := x.at_, text := x.text, ws := x.ws, use := look st.names (wd x.ws 1) } rfl rfl (fun _ => ⟨i, hi⟩)
    have hu : ∀ d, look st.names (wd x.ws 1) = some d → d < st.ar.length := fun d hd => by rw [hi] at hd; obtain rfl := Option.some.inj hd; exact hil
    refine ⟨h.good.join _ hk rfl (by show (0 : UInt8).toNat < 128; decide) hu _ htop, ?_⟩
    exact (h.inv.push { at_ := x.at_, text := x.text, ws := x.ws, use := look st.names (wd x.ws 1) } hws hwl rfl hu).add (top st) st.ar.length (by simp)
  rw [if_neg q4] at hs
  obtain rfl := Except.ok.inj hs
  have hk := kind_of hL hx hw { at_ := x.at_, text := x.text, ws := x.ws } rfl rfl (fun q => absurd q q4)
  refine ⟨h.good.join _ hk rfl (by show (0 : UInt8).toNat < 128; decide) (fun d hd => by cases hd) _ htop, ?_⟩
  exact (h.inv.push { at_ := x.at_, text := x.text, ws := x.ws } hws hwl rfl (fun d hd => by cases hd)).add (top st) st.ar.length (by simp)

theorem step_len {st st' : RSt} {x : Ln} (hs : readStep st x = .ok st') : st'.ar.length = st.ar.length + 1 := by
  unfold readStep at hs
  dsimp only at hs
  repeat' split at hs
  all_goals first
    | (cases hs; done)
    | (obtain rfl := Except.ok.inj hs; simp [addTo_len])

theorem readFrom_good {L : Nat} (hL : L ≤ 65536) : ∀ (l : List Ln) (st st' : RSt), RGood st → (∀ x ∈ l, LnOk L x) → readFrom st l = .ok st' → RGood st' ∧ st'.ar.length = st.ar.length + l.length
  | [], st, st', h, _, hr => by
    simp only [readFrom] at hr
    split at hr
    · obtain rfl := Except.ok.inj hr; exact ⟨h, rfl⟩
    · cases hr
  | x :: r, st, st', h, hx, hr => by
    simp only [readFrom] at hr
    cases e : readStep st x with
    | error e' => rw [e] at hr; cases hr
    | ok st1 =>
      rw [e] at hr
      obtain ⟨h1, h2⟩ := readFrom_good hL r st1 st' (h.step hL (hx x (by simp)) e) (fun y hy => hx y (by simp [hy])) hr
      exact ⟨h1, by rw [h2, step_len e]; simp; omega⟩
theorem RGood.start : RGood st0 := ⟨GoodAr.start, Inv.start⟩
end Drl
end

section
/-! going through ends: with enough fuel there is an answer; no program in sight -/
/-! going through ends: with enough fuel there is an answer; no program in sight -/
namespace Drl

theorem isDig_dec : ∀ n : Nat, (Go.Lib.decDigits n).all isDig = true := by
  intro n
  induction n using Nat.strongRecOn with
  | _ n ih =>
    have hd : ∀ i, i < 10 → isDig (UInt8.ofNat (48 + i)) = true := by decide
    rw [Go.Lib.decDigits]
    split
    · next h => simp only [List.all_cons, List.all_nil, Bool.and_true, hd n h]
    · next h =>
      rw [List.all_append, ih (n / 10) (by omega)]
      simp only [List.all_cons, List.all_nil, Bool.and_true, hd (n % 10) (by omega)]
theorem numVal_snoc (l : Str) (c : UInt8) : numVal (l ++ [c]) = numVal l * 10 + (c.toNat - 48) := by simp [numVal]
theorem numVal_dec : ∀ n : Nat, numVal (Go.Lib.decDigits n) = n := by
  intro n
  induction n using Nat.strongRecOn with
  | _ n ih =>
    have hd : ∀ i, i < 10 → (UInt8.ofNat (48 + i)).toNat - 48 = i := by decide
    rw [Go.Lib.decDigits]
    split
    · next h => simp only [numVal, List.foldl_cons, List.foldl_nil]; rw [hd n h]; omega
    · next h =>
      rw [numVal_snoc, ih (n / 10) (by omega), hd (n % 10) (by omega)]
      omega
theorem dec_head : ∀ n : Nat, 1 ≤ n → ((Go.Lib.decDigits n).headD 0).toNat ≠ 48 := by
  intro n
  induction n using Nat.strongRecOn with
  | _ n ih =>
    intro h1
    have hd : ∀ i, i < 10 → (UInt8.ofNat (48 + i)).toNat = 48 + i := by decide
    rw [Go.Lib.decDigits]
    split
    · next h => simp only [List.headD_cons]; rw [hd n h]; omega
    · next h =>
      have := ih (n / 10) (by omega) (by omega)
      cases hl : Go.Lib.decDigits (n / 10) with
      | nil => rw [hl] at this; exfalso; rw [Go.Lib.decDigits] at hl; split at hl <;> simp at hl
      | cons a r => rw [hl] at this; simpa using this
theorem dec_pos (n : Nat) : 1 ≤ (Go.Lib.decDigits n).length := by rw [Go.Lib.decDigits_length]; exact Go.Lib.nDigits_pos n
theorem numOk_dec (n : Nat) (h : n ≤ 999999) : numOk (Go.Lib.decDigits n) = true := by
  have h1 := dec_pos n
  have h6 := decDigits_len 5 n (by omega)
  have hd := isDig_dec n
  simp only [numOk, hd, Bool.and_true, Bool.and_eq_true, decide_eq_true_eq, Bool.not_eq_true', Bool.and_eq_false_iff, decide_eq_false_iff_not]
  refine ⟨⟨h1, h6⟩, ?_⟩
  by_cases e : 1 ≤ n
  · right; exact dec_head n e
  · left
    have : n = 0 := by omega
    subst this
    rw [Go.Lib.decDigits_one (by omega)]; simp

theorem filled_digs (v : Nums) : ∀ s : Str, s.all isDig = true → filled v s = s
  | [], _ => filled_nil v
  | c :: r, h => by
    simp only [List.all_cons, Bool.and_eq_true] at h
    have hc : 48 ≤ c.toNat ∧ c.toNat ≤ 57 := by simpa [isDig] using h.1
    rw [filled_plain v c r (by omega), filled_digs v r h.2]
theorem cnt_num (v : Nums) (s : Str) (h : numOk s = true) : cnt v s = some (numVal s : Int) := by
  have hd : s.all isDig = true := by simp only [numOk, Bool.and_eq_true] at h; exact h.2
  unfold cnt
  rw [filled_digs v s hd, if_pos h]
theorem isLet_lt {c : UInt8} (h : isLet c = true) : c.toNat < 128 := by
  simp only [isLet, Bool.and_eq_true, decide_eq_true_eq] at h
  omega
theorem cnt_let (v : Nums) (d c : UInt8) (h1 : d.toNat = 36) (h2 : isLet c = true) (h3 : 0 ≤ v c.toNat) (h4 : v c.toNat ≤ 999999) : cnt v [d, c] = some (v c.toNat) := by
  unfold cnt
  rw [filled_put v d c [] h1 (isLet_lt h2) h3, filled_nil, List.append_nil, if_pos (numOk_dec _ (by omega)), numVal_dec]
  congr 1; omega
theorem cnt_range {v : Nums} {s : Str} {n : Int} (h : cnt v s = some n) : 0 ≤ n ∧ n ≤ 999999 := by
  unfold cnt at h
  split at h
  · next hok =>
    have := numVal_lt _ hok
    have := Option.some.inj h
    omega
  · cases h

/-- may the word be a number where these letters stand for something? -/
def WordOk (L : List UInt8) (s : Str) : Prop := numOk s = true ∨ ∃ d c, s = [d, c] ∧ d.toNat = 36 ∧ isLet c = true ∧ c ∈ L
theorem WordOk.cnt {L : List UInt8} {s : Str} (h : WordOk L s) (v : Nums) (hv : ∀ c, v c ≤ 999999) (hL : ∀ c ∈ L, isLet c = true → 0 ≤ v c.toNat) : ∃ n, cnt v s = some n := by
  rcases h with h | ⟨d, c, rfl, hd, hc, hm⟩
  · exact ⟨_, cnt_num v s h⟩
  · exact ⟨_, cnt_let v d c hd hc (hL c hm hc) (hv _)⟩

/-- which letters stand for something in a node's body -/
structure Scoped (ar : List Nd) (S : Nat → List UInt8) : Prop where
  rep : ∀ i, i < ar.length → ∀ n ∈ (nd ar i).body, wd (nd ar n).ws 0 = wRepeat → WordOk (S i) (wd (nd ar n).ws 1)
  for_ : ∀ i, i < ar.length → ∀ n ∈ (nd ar i).body, wd (nd ar n).ws 0 = wFor → WordOk (S i) (wd (nd ar n).ws 2) ∧ WordOk (S i) (wd (nd ar n).ws 3)
  blk : ∀ i, i < ar.length → ∀ n ∈ (nd ar i).body, (wd (nd ar n).ws 0 = wRepeat ∨ wd (nd ar n).ws 0 = wFor) → ∀ c ∈ S n, c ∈ S i ∨ (c = (nd ar n).letter)
  use : ∀ i, i < ar.length → ∀ n ∈ (nd ar i).body, wd (nd ar n).ws 0 = wUse → ∀ d, (nd ar n).use = some d → S d = []

theorem run_mono1 (ar : List Nd) : ∀ (k : Nat) (t : Task) (st : PSt) (r : Except Err PSt), run ar k t st = some r → run ar (k + 1) t st = some r := by
  intro k
  induction k with
  | zero => intro t st r h; simp [run] at h
  | succ k ih =>
    intro t st r h
    cases t with
    | seq l v =>
      cases l with
      | nil => simpa [run] using h
      | cons n l =>
        have key : ∀ q, (if wd (nd ar n).ws 0 = wRepeat then (cnt v (wd (nd ar n).ws 1)).bind fun c => run ar k (.times n (nd ar n).body v 1 c) st
            else if wd (nd ar n).ws 0 = wFor then (cnt v (wd (nd ar n).ws 2)).bind fun a => (cnt v (wd (nd ar n).ws 3)).bind fun b => run ar k (.times n (nd ar n).body v a b) st
            else if wd (nd ar n).ws 0 = wUse then (nd ar n).use.bind fun d => run ar k (.times n (nd ar d).body noNums 1 1) st
            else some (step (nd ar n) v st)) = some q → (if wd (nd ar n).ws 0 = wRepeat then (cnt v (wd (nd ar n).ws 1)).bind fun c => run ar (k + 1) (.times n (nd ar n).body v 1 c) st
            else if wd (nd ar n).ws 0 = wFor then (cnt v (wd (nd ar n).ws 2)).bind fun a => (cnt v (wd (nd ar n).ws 3)).bind fun b => run ar (k + 1) (.times n (nd ar n).body v a b) st
            else if wd (nd ar n).ws 0 = wUse then (nd ar n).use.bind fun d => run ar (k + 1) (.times n (nd ar d).body noNums 1 1) st
            else some (step (nd ar n) v st)) = some q := by
          intro q hq
          split
          · next e =>
            rw [if_pos e] at hq
            cases hc : cnt v (wd (nd ar n).ws 1) with
            | none => rw [hc] at hq; cases hq
            | some c => rw [hc] at hq; exact ih _ _ _ hq
          · next e =>
            rw [if_neg e] at hq
            split
            · next e2 =>
              rw [if_pos e2] at hq
              cases hc : cnt v (wd (nd ar n).ws 2) with
              | none => rw [hc] at hq; cases hq
              | some a =>
                cases hc' : cnt v (wd (nd ar n).ws 3) with
                | none => rw [hc, hc'] at hq; cases hq
                | some b => rw [hc, hc'] at hq; exact ih _ _ _ hq
            · next e2 =>
              rw [if_neg e2] at hq
              split
              · next e3 =>
                rw [if_pos e3] at hq
                cases hc : (nd ar n).use with
                | none => rw [hc] at hq; cases hq
                | some d => rw [hc] at hq; exact ih _ _ _ hq
              · next e3 => rw [if_neg e3] at hq; exact hq
        rw [run] at h ⊢
        split at h
        · cases h
        · next e hq => rw [key _ hq]; exact h
        · next st' hq => rw [key _ hq]; exact ih _ _ _ h
    | times n body v a b =>
      rw [run] at h ⊢
      split at h
      · exact h
      · exact ih _ _ _ h
    | loop n body v a b =>
      rw [run] at h ⊢
      split at h
      · next hab =>
        rw [if_pos hab]
        split at h
        · exact h
        · next st' hst =>
          split at h
          · cases h
          · next e hq => simp only [ih _ _ _ hq]; exact h
          · next st'' hq => simp only [ih _ _ _ hq]; exact ih _ _ _ h
      · next hab => rw [if_neg hab]; exact h
theorem run_mono {ar : List Nd} {k k' : Nat} (hk : k ≤ k') {t : Task} {st : PSt} {r : Except Err PSt} (h : run ar k t st = some r) : run ar k' t st = some r := by
  induction hk with
  | refl => exact h
  | step _ ih => exact run_mono1 ar _ _ _ _ ih

theorem step_turns {n : Nd} {v : Nums} {st st' : PSt} (h : step n v st = .ok st') : st'.turns = st.turns := by
  unfold step at h
  dsimp only at h
  split at h
  · cases h
  · split at h
    · cases h
    · obtain rfl := Except.ok.inj h; rfl
theorem turn_turns {a : Nat} {st st' : PSt} (h : turn a st = .ok st') : st'.turns = st.turns + 1 ∧ st.turns ≠ 65536 := by
  unfold turn at h
  split at h
  · cases h
  · next e => obtain rfl := Except.ok.inj h; exact ⟨rfl, e⟩

theorem run_turns (ar : List Nd) : ∀ (k : Nat) (t : Task) (st st' : PSt), st.turns ≤ 65536 → run ar k t st = some (.ok st') → st.turns ≤ st'.turns ∧ st'.turns ≤ 65536 := by
  intro k
  induction k with
  | zero => intro t st st' _ h; simp [run] at h
  | succ k ih =>
    intro t st st' h0 h
    cases t with
    | seq l v =>
      cases l with
      | nil => simp only [run] at h; obtain rfl := Except.ok.inj (Option.some.inj h); omega
      | cons n l =>
        rw [run] at h
        split at h
        · cases h
        · cases h
        · next st1 hq =>
          have h1 : st.turns ≤ st1.turns ∧ st1.turns ≤ 65536 := by
            split at hq
            · cases hc : cnt v (wd (nd ar n).ws 1) with
              | none => rw [hc] at hq; cases hq
              | some c => rw [hc] at hq; exact ih _ _ _ h0 hq
            · split at hq
              · cases hc : cnt v (wd (nd ar n).ws 2) with
                | none => rw [hc] at hq; cases hq
                | some a =>
                  cases hc' : cnt v (wd (nd ar n).ws 3) with
                  | none => rw [hc, hc'] at hq; cases hq
                  | some b => rw [hc, hc'] at hq; exact ih _ _ _ h0 hq
              · split at hq
                · cases hc : (nd ar n).use with
                  | none => rw [hc] at hq; cases hq
                  | some d => rw [hc] at hq; exact ih _ _ _ h0 hq
                · have := step_turns (Option.some.inj hq); omega
          have h2 := ih _ _ _ h1.2 h
          omega
    | times n body v a b =>
      rw [run] at h
      split at h
      · cases h
      · next st1 hq =>
        have h1 := turn_turns hq
        have h2 := ih _ _ _ (by omega) h
        omega
    | loop n body v a b =>
      rw [run] at h
      split at h
      · split at h
        · cases h
        · next st1 hq =>
          have h1 := turn_turns hq
          split at h
          · cases h
          · cases h
          · next st2 hq2 =>
            have h2 := ih _ _ _ (by omega) hq2
            have h3 := ih _ _ _ h2.2 h
            omega
      · obtain rfl := Except.ok.inj (Option.some.inj h); omega

/-- a list of nodes that may stand in the body of i ends -/
def EndsSeq (ar : List Nd) (S : Nat → List UInt8) (T : Nat) : Prop := ∀ (i : Nat) (l : List Nat) (v : Nums) (st : PSt), i < ar.length → (∀ n ∈ l, n ∈ (nd ar i).body) → (∀ c ∈ S i, isLet c = true → 0 ≤ v c.toNat) → (∀ c, v c ≤ 999999) → st.turns ≤ 65536 → 65536 ≤ st.turns + T → ∃ k r, run ar k (.seq l v) st = some r
def EndsLoop (ar : List Nd) (S : Nat → List UInt8) (T : Nat) : Prop := ∀ (n d : Nat) (v : Nums) (a b : Int) (st : PSt), d < ar.length → (∀ c ∈ S d, isLet c = true → 0 ≤ v c.toNat ∨ c = (nd ar n).letter) → (∀ c, v c ≤ 999999) → 0 ≤ a → b ≤ 999999 → st.turns ≤ 65536 → 65536 ≤ st.turns + T → ∃ k r, run ar k (.loop n (nd ar d).body v a b) st = some r

theorem isLet_ne {c : UInt8} (h : isLet c = true) : c.toNat ≠ 0 := by
  simp only [isLet, Bool.and_eq_true, decide_eq_true_eq] at h
  omega

theorem ends_loop {ar : List Nd} {S : Nat → List UInt8} (T : Nat) (hP : ∀ T', T' < T → EndsSeq ar S T' ∧ EndsLoop ar S T') : EndsLoop ar S T := by
  intro n d v a b st hd hS hv ha hb ht hT
  by_cases hab : a ≤ b
  · cases htn : turn (nd ar n).at_ st with
    | error e => exact ⟨1, .error e, by rw [run, if_pos hab, htn]⟩
    | ok st1 =>
      have h1 := turn_turns htn
      obtain ⟨T', rfl⟩ : ∃ m, T = m + 1 := ⟨T - 1, by omega⟩
      obtain ⟨hseq, hloop⟩ := hP T' (by omega)
      obtain ⟨k1, r1, hr1⟩ := hseq d (nd ar d).body (if (nd ar n).letter.toNat ≠ 0 then upd v (nd ar n).letter.toNat a else v) st1 hd (fun _ h => h) (fun c hc hl => by
          have hz := isLet_ne hl
          rcases hS c hc hl with h | h
          · split
            · unfold upd; split
              · exact ha
              · exact h
            · exact h
          · rw [if_pos (by rw [← h]; exact hz)]
            unfold upd; rw [if_pos (by rw [h])]; exact ha) (fun c => by
          split
          · unfold upd; split
            · omega
            · exact hv c
          · exact hv c) (by omega) (by omega)
      cases r1 with
      | error e => exact ⟨k1 + 1, .error e, by rw [run, if_pos hab, htn]; simp only [hr1]⟩
      | ok st2 =>
        have h2 := run_turns ar _ _ _ _ (by omega) hr1
        obtain ⟨k2, r2, hr2⟩ := hloop n d v (a + 1) b st2 hd hS hv (by omega) hb (by omega) (by omega)
        refine ⟨max k1 k2 + 1, r2, ?_⟩
        rw [run, if_pos hab, htn]
        simp only [run_mono (Nat.le_max_left k1 k2) hr1]
        exact run_mono (Nat.le_max_right k1 k2) hr2
  · exact ⟨1, .ok st, by rw [run, if_neg hab]⟩

theorem ends_times {ar : List Nd} {S : Nat → List UInt8} (T : Nat) (hP : ∀ T', T' < T → EndsLoop ar S T') (n d : Nat) (v : Nums) (a b : Int) (st : PSt) (hd : d < ar.length) (hS : ∀ c ∈ S d, isLet c = true → 0 ≤ v c.toNat ∨ c = (nd ar n).letter) (hv : ∀ c, v c ≤ 999999) (ha : 0 ≤ a) (hb : b ≤ 999999) (ht : st.turns ≤ 65536) (hT : 65536 ≤ st.turns + T) :
    ∃ k r, run ar k (.times n (nd ar d).body v a b) st = some r := by
  cases htn : turn (nd ar n).at_ st with
  | error e => exact ⟨1, .error e, by rw [run, htn]⟩
  | ok st1 =>
    have h1 := turn_turns htn
    obtain ⟨T', rfl⟩ : ∃ m, T = m + 1 := ⟨T - 1, by omega⟩
    obtain ⟨k, r, hr⟩ := hP T' (by omega) n d v a b st1 hd hS hv ha hb (by omega) (by omega)
    exact ⟨k + 1, r, by rw [run, htn]; exact hr⟩

theorem noNums_le (c : Nat) : noNums c ≤ 999999 := by unfold noNums; omega

/-- one node ends -/
theorem ends_one {ar : List Nd} {S : Nat → List UInt8} (G : GoodAr ar) (hS : Scoped ar S) (T : Nat) (hP : ∀ T', T' < T → EndsLoop ar S T') (i n : Nat) (v : Nums) (st : PSt) (hi : i < ar.length) (hn : n ∈ (nd ar i).body) (hv0 : ∀ c ∈ S i, isLet c = true → 0 ≤ v c.toNat) (hv : ∀ c, v c ≤ 999999) (ht : st.turns ≤ 65536) (hT : 65536 ≤ st.turns + T) :
    ∃ k q, ∀ k', k ≤ k' → (if wd (nd ar n).ws 0 = wRepeat then (cnt v (wd (nd ar n).ws 1)).bind fun c => run ar k' (.times n (nd ar n).body v 1 c) st
            else if wd (nd ar n).ws 0 = wFor then (cnt v (wd (nd ar n).ws 2)).bind fun a => (cnt v (wd (nd ar n).ws 3)).bind fun b => run ar k' (.times n (nd ar n).body v a b) st
            else if wd (nd ar n).ws 0 = wUse then (nd ar n).use.bind fun d => run ar k' (.times n (nd ar d).body noNums 1 1) st
            else some (step (nd ar n) v st)) = some q := by
  obtain ⟨hnlt, hk⟩ := G.body i hi n hn
  by_cases e1 : wd (nd ar n).ws 0 = wRepeat
  · obtain ⟨c, hc⟩ := (hS.rep i hi n hn e1).cnt v hv hv0
    have hr := cnt_range hc
    obtain ⟨k, q, hq⟩ := ends_times T hP n n v 1 c st hnlt (fun x hx hl => (hS.blk i hi n hn (.inl e1) x hx).imp (fun h => hv0 x h hl) id) hv (by omega) (by omega) ht hT
    refine ⟨k, q, fun k' hk' => ?_⟩
    rw [if_pos e1, hc]
    exact run_mono hk' hq
  by_cases e2 : wd (nd ar n).ws 0 = wFor
  · obtain ⟨hwa, hwb⟩ := hS.for_ i hi n hn e2
    obtain ⟨a, ha⟩ := hwa.cnt v hv hv0
    obtain ⟨b, hb⟩ := hwb.cnt v hv hv0
    have hra := cnt_range ha
    have hrb := cnt_range hb
    obtain ⟨k, q, hq⟩ := ends_times T hP n n v a b st hnlt (fun x hx hl => (hS.blk i hi n hn (.inr e2) x hx).imp (fun h => hv0 x h hl) id) hv (by omega) (by omega) ht hT
    refine ⟨k, q, fun k' hk' => ?_⟩
    rw [if_neg e1, if_pos e2, ha, hb]
    exact run_mono hk' hq
  by_cases e3 : wd (nd ar n).ws 0 = wUse
  · obtain ⟨d, hd⟩ := hk.use e3
    have hu := hS.use i hi n hn e3 d hd
    obtain ⟨k, q, hq⟩ := ends_times T hP n d noNums 1 1 st (G.uselt n hnlt d hd) (fun x hx => by rw [hu] at hx; cases hx) noNums_le (by omega) (by omega) ht hT
    refine ⟨k, q, fun k' hk' => ?_⟩
    rw [if_neg e1, if_neg e2, if_pos e3, hd]
    exact run_mono hk' hq
  · exact ⟨0, step (nd ar n) v st, fun k' _ => by rw [if_neg e1, if_neg e2, if_neg e3]⟩

theorem one_turns {ar : List Nd} {n k : Nat} {v : Nums} {st st1 : PSt} (h0 : st.turns ≤ 65536) (hq : (if wd (nd ar n).ws 0 = wRepeat then (cnt v (wd (nd ar n).ws 1)).bind fun c => run ar k (.times n (nd ar n).body v 1 c) st
            else if wd (nd ar n).ws 0 = wFor then (cnt v (wd (nd ar n).ws 2)).bind fun a => (cnt v (wd (nd ar n).ws 3)).bind fun b => run ar k (.times n (nd ar n).body v a b) st
            else if wd (nd ar n).ws 0 = wUse then (nd ar n).use.bind fun d => run ar k (.times n (nd ar d).body noNums 1 1) st
            else some (step (nd ar n) v st)) = some (.ok st1)) : st.turns ≤ st1.turns ∧ st1.turns ≤ 65536 := by
  have h := run_turns ar (k + 1 + 1) (.seq [n] v) st st1 h0
  refine h ?_
  rw [run]
  have e : ∀ x, (if wd (nd ar n).ws 0 = wRepeat then (cnt v (wd (nd ar n).ws 1)).bind fun c => run ar k (.times n (nd ar n).body v 1 c) st
            else if wd (nd ar n).ws 0 = wFor then (cnt v (wd (nd ar n).ws 2)).bind fun a => (cnt v (wd (nd ar n).ws 3)).bind fun b => run ar k (.times n (nd ar n).body v a b) st
            else if wd (nd ar n).ws 0 = wUse then (nd ar n).use.bind fun d => run ar k (.times n (nd ar d).body noNums 1 1) st
            else some (step (nd ar n) v st)) = some x → (if wd (nd ar n).ws 0 = wRepeat then (cnt v (wd (nd ar n).ws 1)).bind fun c => run ar (k + 1) (.times n (nd ar n).body v 1 c) st
            else if wd (nd ar n).ws 0 = wFor then (cnt v (wd (nd ar n).ws 2)).bind fun a => (cnt v (wd (nd ar n).ws 3)).bind fun b => run ar (k + 1) (.times n (nd ar n).body v a b) st
            else if wd (nd ar n).ws 0 = wUse then (nd ar n).use.bind fun d => run ar (k + 1) (.times n (nd ar d).body noNums 1 1) st
            else some (step (nd ar n) v st)) = some x := by
    intro x hx
    split
    · next e => rw [if_pos e] at hx; obtain ⟨c, hc, h⟩ := Option.bind_eq_some_iff.1 hx; rw [hc]; exact run_mono1 _ _ _ _ _ h
    · next e =>
      rw [if_neg e] at hx
      split
      · next e2 =>
        rw [if_pos e2] at hx
        obtain ⟨c, hc, h⟩ := Option.bind_eq_some_iff.1 hx
        obtain ⟨c', hc', h⟩ := Option.bind_eq_some_iff.1 h
        rw [hc, Option.bind_some, hc']; exact run_mono1 _ _ _ _ _ h
      · next e2 =>
        rw [if_neg e2] at hx
        split
        · next e3 => rw [if_pos e3] at hx; obtain ⟨c, hc, h⟩ := Option.bind_eq_some_iff.1 hx; rw [hc]; exact run_mono1 _ _ _ _ _ h
        · next e3 => rw [if_neg e3] at hx; exact hx
  rw [e _ hq]
  simp only [run]

theorem ends_seq {ar : List Nd} {S : Nat → List UInt8} (G : GoodAr ar) (hS : Scoped ar S) (T : Nat) (hP : ∀ T', T' < T → EndsLoop ar S T') : EndsSeq ar S T := by
  intro i l
  induction l with
  | nil => intro v st _ _ _ _ _ _; exact ⟨1, .ok st, by rw [run]⟩
  | cons n l ih =>
    intro v st hi hl hv0 hv ht hT
    obtain ⟨k1, q, hq⟩ := ends_one G hS T hP i n v st hi (hl n (by simp)) hv0 hv ht hT
    cases q with
    | error e => exact ⟨k1 + 1, .error e, by rw [run, hq k1 (Nat.le_refl _)]⟩
    | ok st1 =>
      have h1 := one_turns ht (hq k1 (Nat.le_refl _))
      obtain ⟨k2, r, hr⟩ := ih v st1 hi (fun m hm => hl m (by simp [hm])) hv0 hv h1.2 (by omega)
      refine ⟨max k1 k2 + 1, r, ?_⟩
      rw [run, hq _ (Nat.le_max_left k1 k2)]
      exact run_mono (Nat.le_max_right k1 k2) hr

theorem ends_all {ar : List Nd} {S : Nat → List UInt8} (G : GoodAr ar) (hS : Scoped ar S) (T : Nat) : EndsSeq ar S T ∧ EndsLoop ar S T := by
  induction T using Nat.strongRecOn with
  | _ T ih => exact ⟨ends_seq G hS T fun T' h => (ih T' h).2, ends_loop T ih⟩
theorem ends {ar : List Nd} {S : Nat → List UInt8} (G : GoodAr ar) (hS : Scoped ar S) (h0 : S 0 = []) : ∃ k r, run ar k (.seq (nd ar 0).body noNums) {} = some r :=
  (ends_all G hS 65536).1 0 _ noNums {} G.pos (fun _ h => h) (fun c hc => by rw [h0] at hc; cases hc) noNums_le (by show 0 ≤ 65536; omega) (by show 65536 ≤ 0 + 65536; omega)
end Drl
end

section
/-! what reading leaves knows its letters; no program in sight -/
/-! what reading leaves knows its letters; no program in sight -/
namespace Drl

theorem nd_addTo_rest {ar : List Nd} {i k j : Nat} (h : j < ar.length) : (nd (addTo ar i k) j).ws = (nd ar j).ws ∧ (nd (addTo ar i k) j).letter = (nd ar j).letter ∧ (nd (addTo ar i k) j).use = (nd ar j).use := by
  rw [nd_addTo h]
  split <;> exact ⟨rfl, rfl, rfl⟩

def updS (S : Nat → List UInt8) (n : Nat) (X : List UInt8) : Nat → List UInt8 := fun i => if i = n then X else S i
theorem updS_old {S : Nat → List UInt8} {n i : Nat} (X : List UInt8) (h : i < n) : updS S n X i = S i := by unfold updS; rw [if_neg (by omega)]
theorem updS_new (S : Nat → List UInt8) (n : Nat) (X : List UInt8) : updS S n X n = X := by simp [updS]

theorem Scoped.push {ar : List Nd} {S : Nat → List UInt8} (G : GoodAr ar) (h : Scoped ar S) (x : Nd) (hb : x.body = []) (X : List UInt8) : Scoped (ar ++ [x]) (updS S ar.length X) := by
  have key : ∀ {i n}, i < (ar ++ [x]).length → n ∈ (nd (ar ++ [x]) i).body → i < ar.length ∧ n < ar.length ∧ n ∈ (nd ar i).body := by
    intro i n hi hn
    rcases snoc_lt hi with rfl | hi
    · rw [nd_last, hb] at hn; cases hn
    · rw [nd_append hi] at hn
      exact ⟨hi, (G.body i hi n hn).1, hn⟩
  refine ⟨?_, ?_, ?_, ?_⟩
  · intro i hi n hn q
    obtain ⟨h1, h2, h3⟩ := key hi hn
    rw [nd_append h2] at q ⊢
    rw [updS_old X h1]
    exact h.rep i h1 n h3 q
  · intro i hi n hn q
    obtain ⟨h1, h2, h3⟩ := key hi hn
    rw [nd_append h2] at q ⊢
    rw [updS_old X h1]
    exact h.for_ i h1 n h3 q
  · intro i hi n hn q
    obtain ⟨h1, h2, h3⟩ := key hi hn
    rw [nd_append h2] at q ⊢
    rw [updS_old X h1, updS_old X h2]
    exact h.blk i h1 n h3 q
  · intro i hi n hn q d hd
    obtain ⟨h1, h2, h3⟩ := key hi hn
    rw [nd_append h2] at q hd
    rw [updS_old X (G.uselt n h2 d hd)]
    exact h.use i h1 n h3 q d hd

theorem Scoped.join {ar : List Nd} {S : Nat → List UInt8} (G : GoodAr ar) (h : Scoped ar S) (x : Nd) (hb : x.body = []) (X : List UInt8) (i : Nat) (hi : i < ar.length)
    (h1 : wd x.ws 0 = wRepeat → WordOk (S i) (wd x.ws 1)) (h2 : wd x.ws 0 = wFor → WordOk (S i) (wd x.ws 2) ∧ WordOk (S i) (wd x.ws 3))
    (h3 : (wd x.ws 0 = wRepeat ∨ wd x.ws 0 = wFor) → ∀ c ∈ X, c ∈ S i ∨ c = x.letter) (h4 : wd x.ws 0 = wUse → ∀ d, x.use = some d → d < ar.length ∧ S d = []) : Scoped (addTo (ar ++ [x]) i ar.length) (updS S ar.length X) := by
  have g := h.push G x hb X
  have hL : ar.length < (ar ++ [x]).length := by simp
  obtain ⟨n1, n2, n3⟩ := nd_addTo_rest (i := i) (k := ar.length) hL
  rw [nd_last] at n1 n2 n3
  have key : ∀ {j n}, j < (addTo (ar ++ [x]) i ar.length).length → n ∈ (nd (addTo (ar ++ [x]) i ar.length) j).body → (j < (ar ++ [x]).length ∧ n < (ar ++ [x]).length ∧ n ∈ (nd (ar ++ [x]) j).body) ∨ (j = i ∧ n = ar.length) := by
    intro j n hj hn
    rw [addTo_len] at hj
    rw [nd_addTo hj] at hn
    have hold : n ∈ (nd (ar ++ [x]) j).body → n < (ar ++ [x]).length := by
      intro hn
      rcases snoc_lt hj with rfl | hj'
      · rw [nd_last, hb] at hn; cases hn
      · rw [nd_append hj'] at hn
        have := (G.body j hj' n hn).1
        simp; omega
    split at hn
    · next e =>
      simp only [List.mem_append, List.mem_singleton] at hn
      rcases hn with hn | rfl
      · exact .inl ⟨hj, hold hn, hn⟩
      · exact .inr ⟨e, rfl⟩
    · exact .inl ⟨hj, hold hn, hn⟩
  refine ⟨?_, ?_, ?_, ?_⟩
  · intro j hj n hn q
    rcases key hj hn with ⟨a, b, c⟩ | ⟨rfl, rfl⟩
    · rw [(nd_addTo_rest b).1] at q ⊢; exact g.rep j a n c q
    · rw [n1] at q ⊢; rw [updS_old X hi]; exact h1 q
  · intro j hj n hn q
    rcases key hj hn with ⟨a, b, c⟩ | ⟨rfl, rfl⟩
    · rw [(nd_addTo_rest b).1] at q ⊢; exact g.for_ j a n c q
    · rw [n1] at q ⊢; rw [updS_old X hi]; exact h2 q
  · intro j hj n hn q
    rcases key hj hn with ⟨a, b, c⟩ | ⟨rfl, rfl⟩
    · rw [(nd_addTo_rest b).1] at q; rw [(nd_addTo_rest b).2.1]; exact g.blk j a n c q
    · rw [n1] at q; rw [n2, updS_old X hi, updS_new]; exact h3 q
  · intro j hj n hn q d hd
    rcases key hj hn with ⟨a, b, c⟩ | ⟨rfl, rfl⟩
    · rw [(nd_addTo_rest b).1] at q; rw [(nd_addTo_rest b).2.2] at hd; exact g.use j a n c q d hd
    · rw [n1] at q; rw [n3] at hd
      obtain ⟨e1, e2⟩ := h4 q d hd
      rw [updS_old X e1]; exact e2

structure SInv (st : RSt) (S : Nat → List UInt8) : Prop where
  sc : Scoped st.ar S
  zero : S 0 = []
  z0 : (nd st.ar 0).letter = 0
  opened : ∀ k, k < st.opn.length → ∀ c, isLet c = true → around st.ar (st.opn.take (k + 1)) c = true → c ∈ S (st.opn.getD k 0)
  defs : ∀ i ∈ st.opn, wd (nd st.ar i).ws 0 = wDef → S i = []
  names : ∀ p ∈ st.names, S p.2 = []

theorem around_zero (ar : List Nd) (c : UInt8) (hc : isLet c = true) (h : (nd ar 0).letter = 0) : around ar [0] c = false := by
  have := isLet_ne hc
  simp only [around, List.any_cons, List.any_nil, Bool.or_false, h]
  rw [beq_eq_false_iff_ne]
  rintro rfl
  exact this rfl
theorem SInv.start : SInv st0 fun _ => [] := by
  have hz : ∀ {i}, i < st0.ar.length → (nd st0.ar i).body = [] := fun {i} h => by
    have : i = 0 := by simp [st0] at h; omega
    subst this; rfl
  refine ⟨⟨?_, ?_, ?_, ?_⟩, rfl, rfl, ?_, ?_, ?_⟩
  · intro i hi n hn; rw [hz hi] at hn; cases hn
  · intro i hi n hn; rw [hz hi] at hn; cases hn
  · intro i hi n hn; rw [hz hi] at hn; cases hn
  · intro i hi n hn; rw [hz hi] at hn; cases hn
  · intro k hk c hc h
    have : k = 0 := by simp [st0] at hk; omega
    subst this
    have e : st0.opn.take (0 + 1) = [0] := rfl
    rw [e, around_zero _ _ hc rfl] at h
    cases h
  · intro i _ _; rfl
  · intro p hp; cases hp

theorem top_getD {st : RSt} (h : st.opn ≠ []) : st.opn.getD (st.opn.length - 1) 0 = top st := by
  rw [List.getD_eq_getElem?_getD, top_at h]; rfl
theorem SInv.top_ {st : RSt} {S : Nat → List UInt8} (h : SInv st S) (hi : Inv st) {c : UInt8} (hc : isLet c = true) (ha : around st.ar st.opn c = true) : c ∈ S (top st) := by
  have hl : 0 < st.opn.length := List.length_pos_iff.2 hi.ne
  have := h.opened (st.opn.length - 1) (by omega) c hc (by rw [show st.opn.length - 1 + 1 = st.opn.length by omega, List.take_length]; exact ha)
  rwa [top_getD hi.ne] at this

theorem numB_ok' {s : Str} {m : Int} (h : numB s m = true) : numOk s = true := by
  simp only [numB, Bool.and_eq_true] at h; exact h.1
theorem countsB_word {st : RSt} {S : Nat → List UInt8} (h : SInv st S) (hi : Inv st) {s : Str} (hc : countsB st.ar st.opn s = true) : WordOk (S (top st)) s := by
  unfold countsB at hc
  split at hc
  · next d c =>
    split at hc
    · next e => exact .inr ⟨d, c, rfl, e.1, e.2, h.top_ hi e.2 hc⟩
    · exact .inl (numB_ok' hc)
  · exact .inl (numB_ok' hc)

/-- around, where the nodes that are open keep their letters -/
theorem around_same {ar ar' : List Nd} {l : List Nat} (c : UInt8) (h : ∀ i ∈ l, (nd ar' i).letter = (nd ar i).letter) : around ar' l c = around ar l c := by
  unfold around
  induction l with
  | nil => rfl
  | cons a l ih => simp only [List.any_cons]; rw [h a (by simp), ih (fun i hi => h i (by simp [hi]))]

/-- nothing is opened or closed -/
theorem SInv.stay {st : RSt} {S : Nat → List UInt8} (h : SInv st S) (hi : Inv st) (ar' : List Nd) (X : List UInt8) (hsc : Scoped ar' (updS S st.ar.length X))
    (hnd : ∀ i, i < st.ar.length → (nd ar' i).letter = (nd st.ar i).letter ∧ (nd ar' i).ws = (nd st.ar i).ws) : SInv { st with ar := ar' } (updS S st.ar.length X) := by
  refine ⟨hsc, by rw [updS_old X hi.pos]; exact h.zero, by rw [(hnd 0 hi.pos).1]; exact h.z0, ?_, ?_, ?_⟩
  · intro k hk c hc ha
    have hm : st.opn.getD k 0 ∈ st.opn := by
      rw [List.getD_eq_getElem?_getD, List.getElem?_eq_getElem hk]; exact List.getElem_mem hk
    dsimp only at ha ⊢
    rw [updS_old X (hi.opnlt _ hm)]
    refine h.opened k hk c hc ?_
    rw [← around_same c fun i hi' => (hnd i (hi.opnlt i (List.mem_of_mem_take hi'))).1]
    exact ha
  · intro i hi' hw
    dsimp only at hi' hw
    have := hi.opnlt i hi'
    rw [(hnd i this).2] at hw
    rw [updS_old X this]
    exact h.defs i hi' hw
  · intro p hp
    rw [updS_old X (hi.namelt p hp)]
    exact h.names p hp
/-- the newest is opened -/
theorem SInv.opening {st : RSt} {S : Nat → List UInt8} (h : SInv st S) (n : Nat) (hx : ∀ c, isLet c = true → (around st.ar st.opn c = true ∨ (nd st.ar n).letter = c) → c ∈ S n) (hd : wd (nd st.ar n).ws 0 = wDef → S n = []) : SInv { st with opn := st.opn ++ [n] } S := by
  refine ⟨h.sc, h.zero, h.z0, ?_, ?_, h.names⟩
  · intro k hk c hc ha
    dsimp only at hk ha ⊢
    by_cases e : k < st.opn.length
    · rw [List.take_append_of_le_length (by omega)] at ha
      have := h.opened k e c hc ha
      rw [List.getD_eq_getElem?_getD, List.getElem?_append_left e, ← List.getD_eq_getElem?_getD]
      exact this
    · have e2 : k = st.opn.length := by simp at hk; omega
      subst e2
      rw [List.take_of_length_le (by simp)] at ha
      rw [List.getD_eq_getElem?_getD]
      simp only [List.getElem?_concat_length, Option.getD_some]
      refine hx c hc ?_
      simp only [around, List.any_append, List.any_cons, List.any_nil, Bool.or_false, Bool.or_eq_true, beq_iff_eq] at ha ⊢
      exact ha
  · intro i hi hw
    simp only [List.mem_append, List.mem_singleton] at hi
    rcases hi with hi | rfl
    · exact h.defs i hi hw
    · exact hd hw
/-- the last that is open is closed -/
theorem SInv.closing {st : RSt} {S : Nat → List UInt8} (h : SInv st S) (hne : st.opn ≠ []) (names : List (Str × Nat))
    (hn : names = if wd (nd st.ar (top st)).ws 0 = wDef then st.names ++ [(wd (nd st.ar (top st)).ws 1, top st)] else st.names) : SInv { st with opn := st.opn.dropLast, names := names } S := by
  refine ⟨h.sc, h.zero, h.z0, ?_, fun i hi' hw => h.defs i (List.dropLast_subset _ hi') hw, ?_⟩
  · intro k hk c hc ha
    dsimp only at hk ha ⊢
    rw [List.length_dropLast] at hk
    have e1 : st.opn.dropLast.take (k + 1) = st.opn.take (k + 1) := by
      rw [List.dropLast_eq_take, List.take_take, Nat.min_eq_left (by omega)]
    have e2 : st.opn.dropLast.getD k 0 = st.opn.getD k 0 := by
      rw [List.getD_eq_getElem?_getD, List.getElem?_dropLast, if_pos (by omega), ← List.getD_eq_getElem?_getD]
    rw [e1] at ha
    rw [e2]
    exact h.opened k (by omega) c hc ha
  · intro p hp
    dsimp only at hp
    rw [hn] at hp
    split at hp
    · next e =>
      simp only [List.mem_append, List.mem_singleton] at hp
      rcases hp with hp | rfl
      · exact h.names p hp
      · exact h.defs _ (by rw [top_eq hne]; exact List.getLast_mem hne) e
    · exact h.names p hp

theorem wrongE_repc {st : RSt} {x : Ln} (h : wrongE st x = 0) (q : wd x.ws 0 = wRepeat) : countsB st.ar st.opn (wd x.ws 1) = true := by
  unfold wrongE at h
  rw [if_neg (by rw [q]; decide), if_pos q] at h
  split at h
  · cases h
  · next hn =>
    simp only [Bool.or_eq_true, not_or, Bool.not_eq_true', Bool.not_eq_false] at hn
    exact hn.2
theorem wrongE_forc {st : RSt} {x : Ln} (h : wrongE st x = 0) (q : wd x.ws 0 = wFor) : countsB st.ar st.opn (wd x.ws 2) = true ∧ countsB st.ar st.opn (wd x.ws 3) = true := by
  unfold wrongE at h
  rw [if_neg (by rw [q]; decide), if_neg (by rw [q]; decide), if_pos q] at h
  split at h
  · cases h
  · split at h
    · cases h
    · next hn =>
      simp only [Bool.or_eq_true, not_or, Bool.not_eq_true', Bool.not_eq_false] at hn
      exact hn
theorem look_in {names : List (Str × Nat)} {s : Str} {d : Nat} (h : look names s = some d) : ∃ p ∈ names, p.2 = d := by
  unfold look at h
  obtain ⟨p, hp, rfl⟩ := Option.map_eq_some_iff.1 h
  exact ⟨p, List.mem_of_find?_eq_some hp, rfl⟩

theorem SInv.step {st st' : RSt} {S : Nat → List UInt8} {x : Ln} (g : RGood st) (h : SInv st S) (hs : readStep st x = .ok st') : ∃ S', SInv st' S' := by
  have htop := g.inv.top_lt
  have hpos := g.inv.pos
  have hpush : ∀ (n : Nd), ∀ i, i < st.ar.length → (nd (st.ar ++ [n]) i).letter = (nd st.ar i).letter ∧ (nd (st.ar ++ [n]) i).ws = (nd st.ar i).ws := fun n i hi => by rw [nd_append hi]; exact ⟨rfl, rfl⟩
  have hjoin : ∀ (n : Nd), ∀ i, i < st.ar.length → (nd (addTo (st.ar ++ [n]) (top st) st.ar.length) i).letter = (nd st.ar i).letter ∧ (nd (addTo (st.ar ++ [n]) (top st) st.ar.length) i).ws = (nd st.ar i).ws := fun n i hi => by
    obtain ⟨a, b, _⟩ := nd_addTo_rest (ar := st.ar ++ [n]) (i := top st) (k := st.ar.length) (j := i) (by simp; omega)
    rw [a, b]; exact hpush n i hi
  have hjl : ∀ (n : Nd), (nd (addTo (st.ar ++ [n]) (top st) st.ar.length) st.ar.length).letter = n.letter ∧ (nd (addTo (st.ar ++ [n]) (top st) st.ar.length) st.ar.length).ws = n.ws := fun n => by
    obtain ⟨a, b, _⟩ := nd_addTo_rest (ar := st.ar ++ [n]) (i := top st) (k := st.ar.length) (j := st.ar.length) (by simp)
    rw [a, b, nd_last]; exact ⟨rfl, rfl⟩
  unfold readStep at hs
  dsimp only at hs
  by_cases he : x.text = wEnd
  · rw [if_pos he] at hs
    by_cases ht : top st = 0
    · rw [if_pos ht] at hs; cases hs
    · rw [if_neg ht] at hs
      obtain rfl := Except.ok.inj hs
      have h1 := h.stay g.inv _ [] (h.sc.push g.good { at_ := x.at_, text := x.text, ws := x.ws } rfl []) (hpush _)
      exact ⟨_, h1.closing g.inv.ne _ (by
        have e1 : top { ar := st.ar ++ [{ at_ := x.at_, text := x.text, ws := x.ws }], opn := st.opn, names := st.names } = top st := rfl
        rw [e1, nd_append htop])⟩
  rw [if_neg he] at hs
  by_cases hw0 : wrongE st x ≠ 0
  · rw [if_pos hw0] at hs; cases hs
  rw [if_neg hw0] at hs
  have hw : wrongE st x = 0 := by omega
  by_cases q1 : wd x.ws 0 = wDef
  · rw [if_pos q1] at hs
    obtain rfl := Except.ok.inj hs
    obtain ⟨d1, d2, d3⟩ := wrongE_def hw q1
    have h1 := h.stay g.inv _ [] (h.sc.push g.good { at_ := x.at_, text := x.text, ws := x.ws } rfl []) (hpush _)
    refine ⟨_, h1.opening st.ar.length (fun c hc ha => ?_) (fun _ => updS_new _ _ _)⟩
    exfalso
    have ho : st.opn = [0] := by
      obtain ⟨t, ht, _⟩ := g.inv.opn0
      rw [ht] at d2 ⊢
      have : t = [] := List.eq_nil_of_length_eq_zero (by rw [List.length_cons] at d2; omega)
      rw [this]
    have hz := isLet_ne hc
    rcases ha with ha | ha
    · dsimp only at ha
      rw [ho, around_zero _ _ hc (by rw [nd_append hpos]; exact h.z0)] at ha; cases ha
    · dsimp only at ha
      rw [nd_last] at ha
      subst ha
      exact hz rfl
  rw [if_neg q1] at hs
  by_cases q2 : wd x.ws 0 = wFor
  · rw [if_pos q2] at hs
    obtain rfl := Except.ok.inj hs
    obtain ⟨c2, c3⟩ := wrongE_forc hw q2
    have hsc := h.sc.join g.good { at_ := x.at_, text := x.text, ws := x.ws, letter := (wd x.ws 1).headD 0 } rfl (S (top st) ++ [(wd x.ws 1).headD 0]) (top st) htop
      (fun q => by dsimp only at q; rw [q2] at q; exact absurd q (by decide)) (fun _ => ⟨countsB_word h g.inv c2, countsB_word h g.inv c3⟩)
      (fun _ c hc => by simp only [List.mem_append, List.mem_singleton] at hc; exact hc) (fun q => by dsimp only at q; rw [q2] at q; exact absurd q (by decide))
    have h1 := h.stay g.inv _ _ hsc (hjoin _)
    refine ⟨_, h1.opening st.ar.length (fun c hc ha => ?_) (fun q => ?_)⟩
    · rw [updS_new]
      rcases ha with ha | ha
      · dsimp only at ha
        rw [around_same c fun i hi => (hjoin _ i (g.inv.opnlt i hi)).1] at ha
        exact List.mem_append_left _ (h.top_ g.inv hc ha)
      · dsimp only at ha
        rw [(hjl _).1] at ha
        rw [← ha]; simp
    · dsimp only at q
      rw [(hjl _).2] at q
      dsimp only at q
      rw [q2] at q; exact absurd q (by decide)
  rw [if_neg q2] at hs
  by_cases q3 : wd x.ws 0 = wRepeat
  · rw [if_pos q3] at hs
    obtain rfl := Except.ok.inj hs
    have c1 := wrongE_repc hw q3
    have hsc := h.sc.join g.good { at_ := x.at_, text := x.text, ws := x.ws } rfl (S (top st)) (top st) htop
      (fun _ => countsB_word h g.inv c1) (fun q => by dsimp only at q; rw [q3] at q; exact absurd q (by decide))
      (fun _ c hc => .inl hc) (fun q => by dsimp only at q; rw [q3] at q; exact absurd q (by decide))
    have h1 := h.stay g.inv _ _ hsc (hjoin _)
    refine ⟨_, h1.opening st.ar.length (fun c hc ha => ?_) (fun q => ?_)⟩
    · rw [updS_new]
      rcases ha with ha | ha
      · dsimp only at ha
        rw [around_same c fun i hi => (hjoin _ i (g.inv.opnlt i hi)).1] at ha
        exact h.top_ g.inv hc ha
      · dsimp only at ha
        rw [(hjl _).1] at ha
        have := isLet_ne hc
        subst ha
        exact absurd rfl this
    · dsimp only at q
      rw [(hjl _).2] at q
      dsimp only at q
      rw [q3] at q; exact absurd q (by decide)
  rw [if_neg q3] at hs
  by_cases q4 : wd x.ws 0 = wUse
  · rw [if_pos q4] at hs
    obtain rfl := Except.ok.inj hs
    have hsc := h.sc.join g.good { at_ := x.at_, text := x.text, ws := x.ws, use := look st.names (wd x.ws 1) } rfl [] (top st) htop
      (fun q => absurd q q3) (fun q => absurd q q2) (fun q => by rcases q with q | q; (· exact absurd q q3); (· exact absurd q q2))
      (fun _ d hd => by
        obtain ⟨p, hp, rfl⟩ := look_in hd
        exact ⟨g.inv.namelt p hp, h.names p hp⟩)
    exact ⟨_, h.stay g.inv _ _ hsc (hjoin _)⟩
  rw [if_neg q4] at hs
  obtain rfl := Except.ok.inj hs
  have hsc := h.sc.join g.good { at_ := x.at_, text := x.text, ws := x.ws } rfl [] (top st) htop
    (fun q => absurd q q3) (fun q => absurd q q2) (fun q => by rcases q with q | q; (· exact absurd q q3); (· exact absurd q q2)) (fun q => absurd q q4)
  exact ⟨_, h.stay g.inv _ _ hsc (hjoin _)⟩

theorem readFrom_all {L : Nat} (hL : L ≤ 65536) : ∀ (l : List Ln) (st st' : RSt) (S : Nat → List UInt8), RGood st → SInv st S → (∀ x ∈ l, LnOk L x) → readFrom st l = .ok st' → RGood st' ∧ (∃ S', SInv st' S') ∧ st'.ar.length = st.ar.length + l.length
  | [], st, st', S, h, hS, _, hr => by
    simp only [readFrom] at hr
    split at hr
    · obtain rfl := Except.ok.inj hr; exact ⟨h, ⟨S, hS⟩, rfl⟩
    · cases hr
  | x :: r, st, st', S, h, hS, hx, hr => by
    simp only [readFrom] at hr
    cases e : readStep st x with
    | error e' => rw [e] at hr; cases hr
    | ok st1 =>
      rw [e] at hr
      obtain ⟨S1, hS1⟩ := hS.step h e
      obtain ⟨h1, h2, h3⟩ := readFrom_all hL r st1 st' S1 (h.step hL (hx x (by simp)) e) hS1 (fun y hy => hx y (by simp [hy])) hr
      exact ⟨h1, h2, by rw [h3, step_len e]; simp; omega⟩

/-- a text that is not too long is read and gone through -/
theorem read_ends {l : List Ln} {L : Nat} (hL : L ≤ 65536) (hx : ∀ x ∈ l, LnOk L x) {st : RSt} (hr : readFrom st0 l = .ok st) : RGood st ∧ st.ar.length = 1 + l.length ∧ ∃ k r, run st.ar k (.seq (nd st.ar 0).body noNums) {} = some r := by
  obtain ⟨h1, ⟨S, hS⟩, h3⟩ := readFrom_all hL l st0 st _ RGood.start SInv.start hx hr
  exact ⟨h1, by rw [h3]; rfl, ends h1.good hS.sc hS.zero⟩

/-- the whole, with fuel enough: the answer -/
theorem unroll_some (text : Str) : ∃ k r, unroll k text = some r := by
  unfold unroll
  by_cases h0 : 65536 < text.length
  · exact ⟨0, _, by rw [if_pos h0]⟩
  by_cases h1 : headB (lines text) = false
  · exact ⟨0, _, by rw [if_neg h0, if_pos h1]⟩
  cases hr : readFrom st0 (lines text).tail with
  | error e => exact ⟨0, .error e, by rw [if_neg h0, if_neg h1]⟩
  | ok st =>
    obtain ⟨_, _, k, r, hk⟩ := read_ends (L := text.length) (by omega) (fun x hx => (lines_ok text).2 x (List.mem_of_mem_tail hx)) hr
    cases r with
    | error e => exact ⟨k, .error e, by simp only [if_neg h0, if_neg h1, hk]⟩
    | ok st' => exact ⟨k, .ok (st'.steps, (headN (lines text)).toNat), by simp only [if_neg h0, if_neg h1, hk]⟩
end Drl
end
