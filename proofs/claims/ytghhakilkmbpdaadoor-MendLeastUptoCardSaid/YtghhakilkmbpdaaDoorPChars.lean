/- Plain Lean, no program: the classes of characters, which bytes begin a character of a class, and the least bytes that complete one. -/
namespace Gm

abbrev Bs := List UInt8

/-- the classes' ranges, by the class's number -/
def rng : Nat → List (Nat × Nat)
  | 0 => [(0x9, 0xA), (0xD, 0xD), (0x20, 0xD7FF), (0xE000, 0xFFFD), (0x10000, 0x10FFFF)]
  | 1 => [(0x9, 0xA), (0xD, 0xD), (0x20, 0x20)]
  | 2 => [(65, 90), (95, 95), (97, 122), (0xC0, 0xD6), (0xD8, 0xF6), (0xF8, 0x2FF), (0x370, 0x37D), (0x37F, 0x1FFF), (0x200C, 0x200D), (0x2070, 0x218F), (0x2C00, 0x2FEF), (0x3001, 0xD7FF), (0xF900, 0xFDCF), (0xFDF0, 0xFFFD), (0x10000, 0xEFFFF)]
  | 3 => [(45, 46), (48, 57), (65, 90), (95, 95), (97, 122), (0xB7, 0xB7), (0xC0, 0xD6), (0xD8, 0xF6), (0xF8, 0x37D), (0x37F, 0x1FFF), (0x200C, 0x200D), (0x203F, 0x2040), (0x2070, 0x218F), (0x2C00, 0x2FEF), (0x3001, 0xD7FF), (0xF900, 0xFDCF), (0xFDF0, 0xFFFD), (0x10000, 0xEFFFF)]
  | 4 => [(48, 57)]
  | 5 => [(48, 57), (65, 70), (97, 102)]
  | _ => []

/-- is r in one of these (rising) ranges? as the code asks it -/
def isIn : List (Nat × Nat) → Nat → Bool
  | [], _ => false
  | s :: t, r => if r ≤ s.2 then decide (s.1 ≤ r) else isIn t r

def isC (c r : Nat) : Bool := isIn (rng c) r

/-- does the interval from lo to hi meet one of these? -/
def meets (lo hi : Nat) : List (Nat × Nat) → Bool
  | [] => false
  | s :: t => if max lo s.1 ≤ min hi s.2 then true else meets lo hi t

/-- of a first byte: how many bytes, the bits that it gives, the least character -/
def lead (x : Nat) : Option (Nat × Nat × Nat) :=
  if x < 0x80 then some (1, x, 0)
  else if x < 0xC2 ∨ 0xF4 < x then none
  else if x < 0xE0 then some (2, x % 32, 0x80)
  else if x < 0xF0 then some (3, x % 16, 0x800)
  else some (4, x % 8, 0x10000)

/-- the bytes behind the first one; so many may still come -/
def tailing : Nat → Bs → Nat → Nat → Option (Nat × Nat)
  | 0, _, lo, hi => some (lo, hi)
  | k + 1, [], lo, hi => tailing k [] (lo * 64) (hi * 64 + 63)
  | k + 1, y :: t, lo, hi => if y.toNat / 64 = 2 then tailing k t (lo * 64 + y.toNat % 64) (hi * 64 + y.toNat % 64) else none

/-- the least and the greatest character whose bytes begin so -/
def reach : Bs → Option (Nat × Nat)
  | [] => none
  | x :: t => match lead x.toNat with
    | none => none
    | some (wd, l, least) => if wd ≤ t.length then none else (tailing (wd - 1) t l l).map fun p => (max p.1 least, min p.2 0x10FFFF)

def begins (c : Nat) (b : Bs) : Bool := match reach b with
  | none => false
  | some (lo, hi) => meets lo hi (rng c)

/-- how many bytes a character has that begins with x -/
def width (x : UInt8) : Nat := match lead x.toNat with
  | some (wd, _, _) => wd
  | none => 0

/-- (of bytes that begin a character) are they a whole one? -/
def whole : Bs → Bool
  | [] => false
  | x :: t => decide (t.length + 1 = width x)

/-- the first of 0 .. n-1 from k on for which f answers, and what it answers -/
def firstOf {α : Type} (f : UInt8 → Option α) : Nat → Nat → Option (UInt8 × α)
  | 0, _ => none
  | n + 1, k => match f (UInt8.ofNat k) with
    | some a => some (UInt8.ofNat k, a)
    | none => firstOf f n (k + 1)

/-- the least bytes that complete a character of the class (at most so many) -/
def complN (c : Nat) : Nat → Bs → Bs
  | 0, _ => []
  | n + 1, p => if whole p then [] else
    match firstOf (fun x => if begins c (p ++ [x]) then some () else none) 256 0 with
    | none => []
    | some (x, _) => x :: complN c n (p ++ [x])

def compl (c : Nat) (p : Bs) : Bs := complN c 4 p

end Gm

/- Plain Lean, no program: the machine that takes a document's bytes one by one, and the least bytes that end each of its states. -/
namespace Gm

def bs (s : String) : Bs := s.toUTF8.toList

/-- Where a reference stands: in content, or in a value with that quote. -/
abbrev Back := Option UInt8

inductive St
  | between (n : Nat)
  | less | bang | dash
  | comment (n : Nat)
  | literal (k : Nat)
  | section_ (n : Nat)
  | named (q : Back) (s : Bs)
  | hash (q : Back)
  | number (q : Back) (hex : Bool) (v n : Nat)
  | tagName | inTag | valued | attrName | attrEnd | equals
  | value (q : UInt8)
  | slash
  | endName (left : Bs)
  deriving DecidableEq, Repr

structure K where
  st : St
  pend : Bs
  opn : List Bs
  root : Bool
  name : Bs
  had : List Bs
  attr : Bs
  deriving DecidableEq, Repr

def K.init : K := ⟨.between 0, [], [], false, [], [], []⟩

def blank (x : UInt8) : Bool := x = 32 ∨ x = 9 ∨ x = 10 ∨ x = 13

/-- the class of the characters beyond ASCII that may come; none: no such class -/
def K.cls (s : K) : Option Nat := match s.st with
  | .between _ => if s.opn = [] then none else some 0
  | .less => if s.opn = [] ∧ s.root then none else some 2
  | .comment n => if n < 2 then some 0 else none
  | .section_ _ => some 0
  | .value _ => some 0
  | .tagName => some 3
  | .attrName => some 3
  | .inTag => some 2
  | _ => none

/-- the machine behind a whole character of the class -/
def K.took (s : K) (p : Bs) : K := match s.st with
  | .between _ => { s with st := .between 0, pend := [] }
  | .less => { s with st := .tagName, pend := [], root := true, name := p, had := [] }
  | .comment _ => { s with st := .comment 0, pend := [] }
  | .section_ _ => { s with st := .section_ 0, pend := [] }
  | .tagName => { s with pend := [], name := s.name ++ p }
  | .inTag => { s with st := .attrName, pend := [], attr := p }
  | .attrName => { s with pend := [], attr := s.attr ++ p }
  | _ => { s with pend := [] }

def names : List Bs := [[97, 109, 112], [97, 112, 111, 115], [103, 116], [108, 116], [113, 117, 111, 116]]
def cdata : Bs := [91, 67, 68, 65, 84, 65, 91]

/-- behind a reference -/
def K.back (s : K) : Back → K
  | none => { s with st := .between 0 }
  | some q => { s with st := .value q }

def digitOf (hex : Bool) (x : UInt8) : Option Nat :=
  if 48 ≤ x.toNat ∧ x.toNat ≤ 57 then some (x.toNat - 48)
  else if hex ∧ 65 ≤ x.toNat ∧ x.toNat ≤ 70 then some (x.toNat - 55)
  else if hex ∧ 97 ≤ x.toNat ∧ x.toNat ≤ 102 then some (x.toNat - 87)
  else none
def base (hex : Bool) : Nat := if hex then 16 else 10

/-- behind a tag's name, a blank in it, or a value -/
def K.behind (s : K) (x : UInt8) : Option K :=
  if blank x then some { s with st := .inTag }
  else if x = 47 then some { s with st := .slash }
  else if x = 62 then some { s with st := .between 0, opn := s.name :: s.opn }
  else none

/-- a digit, or the semicolon, of a number -/
def K.digit (s : K) (q : Back) (hex : Bool) (v n : Nat) (x : UInt8) : Option K :=
  match digitOf hex x with
  | some d => if v * base hex + d ≤ 0x10FFFF then some { s with st := .number q hex (v * base hex + d) (n + 1) } else none
  | none => if x = 59 ∧ n ≠ 0 ∧ isC 0 v = true then some (s.back q) else none

/-- one byte below 0x80, no character begun -/
def K.ascii (s : K) (x : UInt8) : Option K := match s.st with
  | .between n =>
    if x = 60 then some { s with st := .less }
    else if s.opn = [] then (if blank x then some s else none)
    else if x = 38 then some { s with st := .named none [] }
    else if x = 93 then some { s with st := .between (n + 1) }
    else if x = 62 ∧ 2 ≤ n then none
    else if isC 0 x.toNat then some { s with st := .between 0 } else none
  | .less =>
    if x = 33 then some { s with st := .bang }
    else match s.opn with
      | nm :: o => if x = 47 then some { s with st := .endName nm, opn := o }
        else if isC 2 x.toNat then some (s.took [x]) else none
      | [] => if s.root then none else if isC 2 x.toNat then some (s.took [x]) else none
  | .bang => if x = 45 then some { s with st := .dash } else if x = 91 ∧ s.opn ≠ [] then some { s with st := .literal 1 } else none
  | .dash => if x = 45 then some { s with st := .comment 0 } else none
  | .comment n =>
    if 2 ≤ n then (if x = 62 then some { s with st := .between 0 } else none)
    else if x = 45 then some { s with st := .comment (n + 1) }
    else if isC 0 x.toNat then some { s with st := .comment 0 } else none
  | .literal k => if cdata[k]? = some x then (if k = 6 then some { s with st := .section_ 0 } else some { s with st := .literal (k + 1) }) else none
  | .section_ n =>
    if 2 ≤ n ∧ x = 62 then some { s with st := .between 0 }
    else if x = 93 then some { s with st := .section_ (n + 1) }
    else if isC 0 x.toNat then some { s with st := .section_ 0 } else none
  | .named q t =>
    if t = [] ∧ x = 35 then some { s with st := .hash q }
    else if x = 59 then (if t ∈ names then some (s.back q) else none)
    else if names.any (fun m => (t ++ [x]).isPrefixOf m) then some { s with st := .named q (t ++ [x]) } else none
  | .hash q => if x = 120 then some { s with st := .number q true 0 0 } else s.digit q false 0 0 x
  | .number q hex v n => s.digit q hex v n x
  | .tagName => if isC 3 x.toNat then some (s.took [x]) else s.behind x
  | .inTag => if isC 2 x.toNat then some (s.took [x]) else s.behind x
  | .valued => s.behind x
  | .attrName =>
    if isC 3 x.toNat then some (s.took [x])
    else if s.attr ∈ s.had then none
    else if x = 61 then some { s with st := .equals, had := s.attr :: s.had }
    else if blank x then some { s with st := .attrEnd, had := s.attr :: s.had } else none
  | .attrEnd => if blank x then some s else if x = 61 then some { s with st := .equals } else none
  | .equals => if blank x then some s else if x = 34 ∨ x = 39 then some { s with st := .value x } else none
  | .value q =>
    if x = q then some { s with st := .valued }
    else if x = 60 then none
    else if x = 38 then some { s with st := .named (some q) [] }
    else if isC 0 x.toNat then some s else none
  | .slash => if x = 62 then some { s with st := .between 0 } else none
  | .endName left => match left with
    | y :: t => if x = y then some { s with st := .endName t } else none
    | [] => if blank x then some s else if x = 62 then some { s with st := .between 0 } else none

/-- one byte more; none: no document goes on with it -/
def K.step (s : K) (x : UInt8) : Option K :=
  match s.st with
  | .endName (y :: t) => if x = y then some { s with st := .endName t } else none
  | _ =>
    if s.pend = [] ∧ x.toNat < 128 then s.ascii x
    else match s.cls with
      | none => none
      | some c => if begins c (s.pend ++ [x]) then (if whole (s.pend ++ [x]) then some (s.took (s.pend ++ [x])) else some { s with pend := s.pend ++ [x] }) else none

def K.run : K → Bs → Option K
  | s, [] => some s
  | s, x :: t => match s.step x with
    | none => none
    | some s' => s'.run t

/-! ### what ends each state -/

/-- the least of the digits that make v an allowed character's number, so many -/
def moreD (hex : Bool) : Nat → Nat → Option Bs
  | 0, v => if v ≤ 0x10FFFF ∧ isC 0 v = true then some [] else none
  | n + 1, v => if 0x10FFFF < v then none else
    (firstOf (fun x => match digitOf hex x with | none => none | some d => moreD hex n (v * base hex + d)) 256 0).map fun p => p.1 :: p.2

/-- the first n from k on (so many tried) with an answer -/
def upward {α : Type} (f : Nat → Option α) : Nat → Nat → Option α
  | 0, _ => none
  | m + 1, k => match f k with
    | some a => some a
    | none => upward f m (k + 1)

def numberRest (hex : Bool) (v n : Nat) : Bs :=
  if n ≠ 0 ∧ isC 0 v = true then [59] else ((upward (fun k => moreD hex k v) 4 1).getD []) ++ [59]

/-- how many bytes at the front are of a name (from a class on), a beginning of its last character too; all: true -/
def nameLike : Bs → Nat → Bs → Bool
  | p, c, [] => p = [] ∨ begins c p
  | p, c, x :: t => if begins c (p ++ [x]) then (if whole (p ++ [x]) then nameLike [] 3 t else nameLike (p ++ [x]) c t) else false

/-- are the bytes a name? -/
def isName : Bs → Nat → Bs → Bool
  | p, c, [] => p = [] ∧ c = 3
  | p, c, x :: t => if begins c (p ++ [x]) then (if whole (p ++ [x]) then isName [] 3 t else isName (p ++ [x]) c t) else false

/-- the least n bytes behind nm that make it a name that does not stand -/
def searchN (had : List Bs) : Nat → Bs → Option Bs
  | 0, nm => if isName [] 2 nm = true ∧ nm ∉ had then some [] else none
  | n + 1, nm => (firstOf (fun x => if nameLike [] 2 (nm ++ [x]) then searchN had n (nm ++ [x]) else none) 256 0).map fun p => p.1 :: p.2

def unlike (nm : Bs) (had : List Bs) : Bs := (upward (fun k => searchN had k nm) (had.length + 6) 0).getD []

/-- the least of what is left of a reference's name -/
def leastLeft (t : Bs) : List Bs → Bs → Bs
  | [], best => best
  | m :: r, best => leastLeft t r (if t.isPrefixOf m ∧ (best = [] ∨ m.length - t.length < best.length) then m.drop t.length else best)

def namesS : List Bs := [[97, 109, 112, 59], [97, 112, 111, 115, 59], [103, 116, 59], [108, 116, 59], [113, 117, 111, 116, 59]]

def closing : List Bs → Bs
  | [] => []
  | nm :: o => 60 :: 47 :: nm ++ (62 :: closing o)

/-- what ends a tag in whose value it stands -/
def tagRest : Back → Bs
  | none => []
  | some q => [q, 47, 62]

/-- what ends the thing at hand -/
def K.within (s : K) : Bs :=
  match s.st with
  | .between _ => match s.pend, s.cls with | _ :: _, some c => compl c s.pend | _, _ => []
  | .less => match s.pend, s.cls with
    | _ :: _, some c => compl c s.pend ++ [47, 62]
    | _, _ => match s.opn with
      | nm :: _ => 47 :: nm ++ [62]
      | [] => if s.root then [33, 45, 45, 45, 45, 62] else [65, 47, 62]
  | .bang => [45, 45, 45, 45, 62]
  | .dash => [45, 45, 45, 62]
  | .comment n => match s.pend, s.cls with
    | _ :: _, some c => compl c s.pend ++ [45, 45, 62]
    | _, _ => [45, 45, 62].drop (min n 2)
  | .literal k => cdata.drop k ++ [93, 93, 62]
  | .section_ n => match s.pend, s.cls with
    | _ :: _, some c => compl c s.pend ++ [93, 93, 62]
    | _, _ => [93, 93, 62].drop (min n 2)
  | .named q t => (if t = [] then [35, 57, 59] else leastLeft t namesS []) ++ tagRest q
  | .hash q => [57, 59] ++ tagRest q
  | .number q hex v n => numberRest hex v n ++ tagRest q
  | .tagName => match s.pend, s.cls with
    | _ :: _, some c => compl c s.pend ++ [47, 62]
    | _, _ => [47, 62]
  | .inTag => match s.pend with
    | _ :: _ => unlike s.pend s.had ++ [61, 34, 34, 47, 62]
    | [] => [47, 62]
  | .valued => [47, 62]
  | .attrName => unlike (s.attr ++ s.pend) s.had ++ [61, 34, 34, 47, 62]
  | .attrEnd => [61, 34, 34, 47, 62]
  | .equals => [34, 34, 47, 62]
  | .value q => match s.pend, s.cls with
    | _ :: _, some c => compl c s.pend ++ [q, 47, 62]
    | _, _ => [q, 47, 62]
  | .slash => [62]
  | .endName left => left ++ [62]

/-- the elements to be closed behind it -/
def K.left (s : K) : List Bs := match s.st, s.opn with
  | .less, _ :: o => if s.pend = [] then o else s.opn
  | _, o => o

/-- is the root element still to come behind it? -/
def K.rootless (s : K) : Bool := match s.st with
  | .less => false
  | _ => !s.root

def K.rest (s : K) : Bs := s.within ++ closing s.left ++ (if s.rootless then [60, 65, 47, 62] else [])

end Gm
