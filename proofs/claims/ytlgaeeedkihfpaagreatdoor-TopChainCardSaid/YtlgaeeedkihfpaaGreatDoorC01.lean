/-
  Texts of the proof of Chain, one behind the other: Spec, SpecB.
-/
/-
  What the program's functions compute, as plain Lean over lists of bytes: references, tokens, trees, policies, pages.
-/
namespace Go.Proofs.YtlgaeeedkihfpaaGreatDoor.Tz

abbrev B := List UInt8

/-! ### letters -/
def lowB (b : UInt8) : UInt8 := if 65 ≤ b.toNat ∧ b.toNat ≤ 90 then b + 32 else b
def lowL (l : B) : B := l.map lowB
def blankB (c : UInt8) : Bool := c == 9 || c == 10 || c == 12 || c == 13 || c == 32
def letterB (c : UInt8) : Bool := (decide (97 ≤ c.toNat) && decide (c.toNat ≤ 122)) || (decide (65 ≤ c.toNat) && decide (c.toNat ≤ 90))
/-- The place of a text in another one. -/
def indexL (t : B) : B → Option Nat
  | [] => if t = [] then some 0 else none
  | c :: s => if t.isPrefixOf (c :: s) then some 0 else (indexL t s).map (· + 1)

/-! ### references -/
/-- A rune as UTF-8. -/
def runeL (r : Nat) : B :=
  if r < 128 then [UInt8.ofNat r]
  else if r < 2048 then [UInt8.ofNat (192 + r / 64), UInt8.ofNat (128 + r % 64)]
  else if 55296 ≤ r ∧ r ≤ 57343 then [239, 191, 189]
  else if r < 65536 then [UInt8.ofNat (224 + r / 4096), UInt8.ofNat (128 + r / 64 % 64), UInt8.ofNat (128 + r % 64)]
  else if r ≤ 1114111 then [UInt8.ofNat (240 + r / 262144), UInt8.ofNat (128 + r / 4096 % 64), UInt8.ofNat (128 + r / 64 % 64), UInt8.ofNat (128 + r % 64)]
  else [239, 191, 189]
def named : List (B × Nat) :=
  [([97, 109, 112], 38), ([108, 116], 60), ([103, 116], 62), ([113, 117, 111, 116], 34), ([97, 112, 111, 115], 39), ([110, 98, 115, 112], 160), ([99, 111, 112, 121], 169), ([114, 101, 103], 174),
   ([100, 101, 103], 176), ([109, 105, 100, 100, 111, 116], 183), ([108, 97, 113, 117, 111], 171), ([114, 97, 113, 117, 111], 187), ([116, 105, 109, 101, 115], 215), ([101, 97, 99, 117, 116, 101], 233),
   ([110, 100, 97, 115, 104], 8211), ([109, 100, 97, 115, 104], 8212), ([108, 115, 113, 117, 111], 8216), ([114, 115, 113, 117, 111], 8217), ([108, 100, 113, 117, 111], 8220), ([114, 100, 113, 117, 111], 8221),
   ([104, 101, 108, 108, 105, 112], 8230), ([101, 117, 114, 111], 8364)]
def namedL (n : B) : Option B := (named.find? fun x => x.1 == n).map fun x => runeL x.2
/-- A hexadecimal digit's number. -/
def digitL (c : UInt8) : Option Nat := if 48 ≤ c.toNat ∧ c.toNat ≤ 57 then some (c.toNat - 48) else if 97 ≤ c.toNat ∧ c.toNat ≤ 102 then some (c.toNat - 87) else none
def numG (base : Nat) : B → Nat → Option Nat
  | [], n => some n
  | c :: s, n => match digitL c with | some d => if d < base then numG base s (n * base + d) else none | none => none
def numberL (s : B) (base most : Nat) : Option Nat := if s = [] ∨ most < s.length then none else numG base (lowL s) 0
def oddN (n : Nat) : Nat := if n = 0 ∨ n = 13 ∨ (55296 ≤ n ∧ n ≤ 57343) ∨ 1114111 < n then 65533 else n
def standsL (s : B) : Option B :=
  match s with
  | 35 :: d => (match d with
    | c :: d' => if c = 120 ∨ c = 88 then numberL d' 16 6 else numberL d 10 7
    | [] => numberL d 10 7).map fun n => runeL (oddN n)
  | _ => namedL s
/-- What a text stands for, by at most so many steps. -/
def resolveG : Nat → B → B
  | 0, _ => []
  | f + 1, s =>
    match s.dropWhile (· != 38) with
    | [] => s
    | _ :: t =>
      s.takeWhile (· != 38) ++
        match ((t.take 11).findIdx? (· == 59)) with
        | some e => (match standsL (t.take e) with
          | some r => r ++ resolveG f (t.drop (e + 1))
          | none => 38 :: resolveG f t)
        | none => 38 :: resolveG f t
def resolveL (s : B) : B := resolveG (s.length + 1) s
/-- A text in which nothing begins what it is not. -/
def escapeL (quote : Bool) : B → B
  | [] => []
  | [c] => if c = 38 then [38, 97, 109, 112, 59] else if c = 60 then [38, 108, 116, 59] else if c = 62 then [38, 103, 116, 59] else if c = 34 ∧ quote then [38, 113, 117, 111, 116, 59] else [c]
  | c :: d :: s =>
    if c = 38 then [38, 97, 109, 112, 59] ++ escapeL quote (d :: s) else if c = 60 then [38, 108, 116, 59] ++ escapeL quote (d :: s) else if c = 62 then [38, 103, 116, 59] ++ escapeL quote (d :: s)
    else if c = 34 ∧ quote then [38, 113, 117, 111, 116, 59] ++ escapeL quote (d :: s) else if c = 194 ∧ d = 160 then [38, 110, 98, 115, 112, 59] ++ escapeL quote s else c :: escapeL quote (d :: s)

/-! ### tokens -/
structure Atr where
  name : B
  val : B
structure Tok where
  kind : Nat
  name : B
  attrs : List Atr
  closed : Bool
  text : B
def rawNames : List B := [[115, 99, 114, 105, 112, 116], [115, 116, 121, 108, 101], [120, 109, 112], [105, 102, 114, 97, 109, 101], [110, 111, 101, 109, 98, 101, 100], [110, 111, 102, 114, 97, 109, 101, 115], [112, 108, 97, 105, 110, 116, 101, 120, 116]]
def rawTexts : List B := [[116, 101, 120, 116, 97, 114, 101, 97], [116, 105, 116, 108, 101]]
def plaintext : B := [112, 108, 97, 105, 110, 116, 101, 120, 116]
/-- Is what stands within text alone, and do references count? -/
def rawL (n : B) : Bool × Bool := if rawNames.contains n then (true, false) else if rawTexts.contains n then (true, true) else (false, false)
def plainL : B → Bool
  | [] => true
  | c :: t => if c ≠ 60 then true else match t with
    | [] => true
    | d :: u => if d = 47 then u.isEmpty else d != 33 && d != 63 && !letterB d
/-- How many bytes of text stand in front. -/
def textN : B → Nat
  | [] => 0
  | c :: t => if plainL (c :: t) then 1 + textN t else 0
def nameC (c : UInt8) : Bool := !blankB c && c != 47 && c != 62
def attrC (c : UInt8) : Bool := !blankB c && c != 47 && c != 62 && c != 61
def valC (c : UInt8) : Bool := !blankB c && c != 62
def addA (as : List Atr) (n v : B) : List Atr := if as.any (fun a => a.name == n) then as else as ++ [⟨n, v⟩]
/-- The rest of a tag behind its name: whether it is closed, its attributes, what is left; none: it never ends. -/
def tagG : Nat → B → Bool → List Atr → Option (Bool × List Atr × B)
  | 0, _, _, _ => none
  | f + 1, s, cl, as =>
    match s.dropWhile blankB with
    | [] => none
    | c :: t =>
      if c = 47 then tagG f t (cl || t.head? == some 62) as
      else if c = 62 then some (cl, as, t)
      else
        let n := lowL (c :: t.takeWhile attrC)
        match (t.dropWhile attrC).dropWhile blankB with
        | [] => tagG f [] cl (addA as n [])
        | e :: u =>
          if e ≠ 61 then tagG f (e :: u) cl (addA as n [])
          else match u.dropWhile blankB with
            | [] => tagG f [] cl (addA as n (resolveL []))
            | q :: v =>
              if q = 34 ∨ q = 39 then
                if v.contains q then tagG f ((v.dropWhile (· != q)).drop 1) cl (addA as n (resolveL (v.takeWhile (· != q)))) else none
              else tagG f ((q :: v).dropWhile valC) cl (addA as n (resolveL ((q :: v).takeWhile valC)))
/-- A tag from its name on. -/
def tagL (s : B) : Option (Tok × B) :=
  (tagG (s.length + 1) (s.dropWhile nameC) false []).map fun x => (⟨2, lowL (s.takeWhile nameC), x.2.1, x.1, []⟩, x.2.2)
/-- Does a raw element's text end here? -/
def rawEnd (n s : B) : Bool :=
  n != plaintext && ([60, 47] : B).isPrefixOf s && decide (2 + n.length < s.length) && lowL ((s.drop 2).take n.length) == n && (match s.drop (2 + n.length) with | c :: _ => blankB c || c == 47 || c == 62 | [] => false)
def rawN (n : B) : B → Nat
  | [] => 0
  | c :: t => if rawEnd n (c :: t) then 0 else 1 + rawN n t
def textT (t : B) : Tok := ⟨1, [], [], false, t⟩
/-- What begins at a place: its tokens and what is left; none: a tag never ends. -/
def nextL (s : B) : Option (List Tok × B) :=
  if plainL s then some ([textT (resolveL (s.take (textN s)))], s.drop (textN s))
  else if ([60, 33, 45, 45] : B).isPrefixOf s then
    match indexL [45, 45, 62] (s.drop 4) with
    | some i => some ([⟨4, [], [], false, (s.drop 4).take i⟩], (s.drop 4).drop (i + 3))
    | none => some ([⟨4, [], [], false, s.drop 4⟩], [])
  else if ([60, 47, 62] : B).isPrefixOf s then some ([], s.drop 3)
  else match s with
  | _ :: d :: u =>
    if letterB d then
      match tagL (d :: u) with
      | none => none
      | some (t, r) =>
        if (rawL t.name).1 then
          let x := r.take (rawN t.name r)
          let y := if (rawL t.name).2 then resolveL x else x
          some (if y = [] then [t] else [t, textT y], r.drop (rawN t.name r))
        else some ([t], r)
    else if d = 47 ∧ (match u with | c :: _ => letterB c | [] => false) = true then
      match tagL u with
      | none => none
      | some (t, r) => some ([⟨3, t.name, [], false, []⟩], r)
    else match indexL [62] s with
      | some i => some ([], s.drop (i + 1))
      | none => some ([], [])
  | _ => some ([], [])
def toksG : Nat → B → List Tok
  | 0, _ => []
  | f + 1, s => if s = [] then [] else match nextL s with
    | none => []
    | some (ts, r) => ts ++ toksG f r
def toksL (s : B) : List Tok := toksG (s.length + 1) s

/-! ### trees -/
inductive Nod where
  | mk (name : B) (attrs : List Atr) (text : B) (kids : List Nod)
def Nod.name : Nod → B | .mk n _ _ _ => n
def Nod.attrs : Nod → List Atr | .mk _ a _ _ => a
def Nod.text : Nod → B | .mk _ _ t _ => t
def Nod.kids : Nod → List Nod | .mk _ _ _ k => k
def txt (t : B) : Nod := .mk [] [] t []
def voids : List B := [[97, 114, 101, 97], [98, 97, 115, 101], [98, 114], [99, 111, 108], [101, 109, 98, 101, 100], [104, 114], [105, 109, 103], [105, 110, 112, 117, 116], [108, 105, 110, 107], [109, 101, 116, 97], [112, 97, 114, 97, 109], [115, 111, 117, 114, 99, 101], [116, 114, 97, 99, 107], [119, 98, 114]]
def blocks : List B := [[97, 100, 100, 114, 101, 115, 115], [97, 114, 116, 105, 99, 108, 101], [97, 115, 105, 100, 101], [98, 108, 111, 99, 107, 113, 117, 111, 116, 101], [100, 105, 118], [100, 108], [102, 105, 101, 108, 100, 115, 101, 116], [102, 105, 103, 117, 114, 101], [102, 111, 111, 116, 101, 114], [102, 111, 114, 109], [104, 49], [104, 50], [104, 51], [104, 52], [104, 53], [104, 54], [104, 101, 97, 100, 101, 114], [104, 114], [108, 105], [109, 97, 105, 110], [110, 97, 118], [111, 108], [112], [112, 114, 101], [115, 101, 99, 116, 105, 111, 110], [116, 97, 98, 108, 101], [117, 108]]
def voidL (n : B) : Bool := voids.contains n
def blockL (n : B) : Bool := blocks.contains n
/-- One that is open, or the whole tree. -/
structure El where
  name : B
  attrs : List Atr
  kids : List Nod
def El.nod (e : El) : Nod := .mk e.name e.attrs [] e.kids
/-- A builder: what is open, the innermost first; how many nodes there are; is it over? -/
structure Bd where
  open_ : List El
  many : Nat
  over : Bool
def putO (n : Nod) : List El → List El
  | [] => []
  | e :: r => { e with kids := e.kids ++ [n] } :: r
def Bd.put (b : Bd) (n : Nod) : Bd := { b with open_ := putO n b.open_ }
def Bd.count (b : Bd) : Bd := { b with many := b.many + 1, over := b.over || decide (64 < b.open_.length - 1) || decide (2000 < b.many + 1) }
def shutO : List El → List El
  | [] => []
  | e :: r => putO e.nod r
/-- How many are open within the innermost element of some names (and which name); none: none is open. The last of the list is the tree itself. -/
def innerO (names : List B) : List El → Option (Nat × B)
  | [] => none
  | [_] => none
  | e :: r => if names.contains e.name then some (0, e.name) else (innerO names r).map fun x => (x.1 + 1, x.2)
def shutN : Nat → List El → List El
  | 0, o => o
  | n + 1, o => shutN n (shutO o)
def closeO (name : B) (o : List El) : List El × Bool :=
  match innerO [name] o with
  | some (k, _) => (shutN (k + 1) o, true)
  | none => (o, false)
def pN : B := [112]
def liN : B := [108, 105]
def ulN : B := [117, 108]
def olN : B := [111, 108]
def brN : B := [98, 114]
def Bd.start (b : Bd) (name : B) (attrs : List Atr) : Bd :=
  let o1 := if blockL name then (closeO pN b.open_).1 else b.open_
  let o2 := if name = liN then (match innerO [liN, ulN, olN] o1 with | some (_, x) => if x = liN then (closeO liN o1).1 else o1 | none => o1) else o1
  let o3 := if voidL name then putO (.mk name attrs [] []) o2 else ⟨name, attrs, []⟩ :: o2
  Bd.count { b with open_ := o3 }
/-- Text behind what the innermost element has: joined to a text, or a node of its own. -/
def joinK (s : B) (k : List Nod) : Option (List Nod) :=
  match k.getLast? with
  | some n => if n.name = [] then some (k.dropLast ++ [.mk n.name n.attrs (n.text ++ s) n.kids]) else none
  | none => none
def Bd.text (b : Bd) (s : B) : Bd :=
  if s = [] then b else
  match b.open_ with
  | [] => b
  | e :: r => match joinK s e.kids with
    | some k => { b with open_ := { e with kids := k } :: r }
    | none => (b.put (txt s)).count
def Bd.end_ (b : Bd) (name : B) : Bd :=
  let c := closeO name b.open_
  if c.2 then { b with open_ := c.1 }
  else if name = pN then
    let b1 := b.start name []
    { b1 with open_ := (closeO name b1.open_).1 }
  else if name = brN then b.start name []
  else b
def Bd.take (b : Bd) (t : Tok) : Bd :=
  if t.kind = 1 then b.text t.text else if t.kind = 2 then b.start t.name t.attrs else if t.kind = 3 then b.end_ t.name else b
def buildG : List Tok → Bd → Option (List Nod)
  | [], b => match shutN (b.open_.length - 1) b.open_ with | e :: _ => some e.kids | [] => none
  | t :: r, b => if (b.take t).over then none else buildG r (b.take t)
/-- The tree of tokens; none: it is too deep, or too large. -/
def buildL (l : List Tok) : Option (List Nod) := buildG l ⟨[⟨[], [], []⟩], 0, false⟩
mutual
def sizeN : Nod → Nat × Nat
  | .mk n _ _ k => let x := sizeL k; (1 + x.1, if n ≠ [] then 1 + x.2 else 0)
def sizeL : List Nod → Nat × Nat
  | [] => (0, 0)
  | n :: r => let x := sizeN n; let y := sizeL r; (x.1 + y.1, max x.2 y.2)
end

/-! ### pages -/
def attrH (a : Atr) : B := [32] ++ a.name ++ [61, 34] ++ escapeL true a.val ++ [34]
mutual
def htmlN : Nod → B
  | .mk n a t k => if n = [] then escapeL false t else
    ([60] ++ n ++ (a.map attrH).flatten ++ [62]) ++ if voidL n then [] else htmlL k ++ ([60, 47] ++ n ++ [62])
def htmlL : List Nod → B
  | [] => []
  | n :: r => htmlN n ++ htmlL r
end
end Go.Proofs.YtlgaeeedkihfpaaGreatDoor.Tz

/-
  What the program's functions compute, as plain Lean: policies, styles, places, cleaning.
-/
namespace Go.Proofs.YtlgaeeedkihfpaaGreatDoor.Tz

/-! ### lists of texts -/
def ltL : B → B → Bool
  | _, [] => false
  | [], _ :: _ => true
  | a :: s, b :: t => if a.toNat < b.toNat then true else if b.toNat < a.toNat then false else ltL s t
def splitL (c : UInt8) : B → List B
  | [] => [[]]
  | x :: s => if x = c then [] :: splitL c s else match splitL c s with | h :: t => (x :: h) :: t | [] => [[x]]
def cutL (c : UInt8) (s : B) : Option (B × B) := if s.contains c then some (s.takeWhile (· != c), (s.dropWhile (· != c)).drop 1) else none
def joinL (sep : B) : List B → B
  | [] => []
  | [x] => x
  | x :: r => x ++ sep ++ joinL sep r

/-! ### policies -/
structure Pol where
  epoch : Int
  elems : List B
  attrs : List B
  schemes : List B
  classes : List B
  props : List B
  depth : Int
  nodes : Int
  bytes : Int
def smallB (c : UInt8) : Bool := decide (97 ≤ c.toNat) && decide (c.toNat ≤ 122)
def wordC (c : UInt8) : Bool := smallB c || (decide (48 ≤ c.toNat) && decide (c.toNat ≤ 57)) || c == 45
def wordL : B → Bool
  | [] => false
  | c :: s => smallB c && s.all wordC && decide (s.length + 1 ≤ 32)
def nevers : List B := [[98, 97, 115, 101], [101, 109, 98, 101, 100], [102, 111, 114, 109], [105, 110, 112, 117, 116], [108, 105, 110, 107], [109, 97, 116, 104], [109, 101, 116, 97], [111, 98, 106, 101, 99, 116], [112, 97, 114, 97, 109], [115, 101, 108, 101, 99, 116], [115, 118, 103], [116, 101, 109, 112, 108, 97, 116, 101], [110, 111, 115, 99, 114, 105, 112, 116], [102, 114, 97, 109, 101], [102, 114, 97, 109, 101, 115, 101, 116]]
def neverL (n : B) : Bool := nevers.contains n || (rawL n).1
def onN : B := [111, 110]
def srcdocN : B := [115, 114, 99, 100, 111, 99]
def formactionN : B := [102, 111, 114, 109, 97, 99, 116, 105, 111, 110]
def styleN : B := [115, 116, 121, 108, 101]
def classN : B := [99, 108, 97, 115, 115]
def relN : B := [114, 101, 108]
def hrefN : B := [104, 114, 101, 102]
def aN : B := [97]
def starN : B := [42]
def attrOk (s : B) : Bool := wordL s && !onN.isPrefixOf s && s != srcdocN && s != formactionN && s != styleN
def risesL : List B → Bool
  | [] => true
  | [_] => true
  | a :: b :: r => ltL a b && risesL (b :: r)
def listOk (l : List B) (holds : B → Bool) : Bool := risesL l && l.all holds && decide (l.length ≤ 64)
def attrEntry (elems : List B) (s : B) : Bool := match cutL 46 s with | some (e, a) => (e == starN || elems.contains e) && attrOk a | none => false
def schemeOk (s : B) : Bool := wordL s && s != [106, 97, 118, 97, 115, 99, 114, 105, 112, 116] && s != [100, 97, 116, 97] && s != [118, 98, 115, 99, 114, 105, 112, 116]
def rightP (p : Pol) : Bool :=
  decide (1 ≤ p.epoch) && decide (p.epoch ≤ 1000000) && decide (1 ≤ p.depth) && decide (p.depth ≤ 64) && decide (1 ≤ p.nodes) && decide (p.nodes ≤ 2000) && decide (1 ≤ p.bytes) && decide (p.bytes ≤ 16384) &&
  listOk p.elems (fun s => wordL s && !neverL s) && listOk p.attrs (attrEntry p.elems) && listOk p.schemes schemeOk && listOk p.classes wordL && listOk p.props wordL &&
  (!p.elems.contains liN || (p.elems.contains ulN && p.elems.contains olN))
def elemP (p : Pol) (n : B) : Bool := p.elems.contains n
def attrP (p : Pol) (e a : B) : Bool := elemP p e && (p.attrs.contains ([42, 46] ++ a) || p.attrs.contains (e ++ [46] ++ a))

/-! ### styles and classes -/
def styleC (c : UInt8) : Bool := smallB c || (decide (48 ≤ c.toNat) && decide (c.toNat ≤ 57)) || c == 32 || c == 35 || c == 37 || c == 46 || c == 44 || c == 45
def styleV (s : B) : Bool := !s.isEmpty && decide (s.length ≤ 100) && s.head? != some 32 && s.getLast? != some 32 && s.all styleC
def trimL (s : B) : B := ((s.dropWhile blankB).reverse.dropWhile blankB).reverse
def bareL (s : B) : B := lowL (trimL s)
def pairsL (s : B) : List (B × B) := ((splitL 59 s).filterMap (cutL 58)).map fun x => (bareL x.1, bareL x.2)
def lastsL : List (B × B) → List (B × B)
  | [] => []
  | x :: r => if r.any (fun y => y.1 == x.1) then lastsL r else x :: lastsL r
def filterS (s : B) (props : List B) : B := joinL [59, 32] ((lastsL ((pairsL s).filter fun x => props.contains x.1 && styleV x.2)).map fun x => x.1 ++ [58, 32] ++ x.2)
def firstsG (l : List B) : List B → List B → List B
  | [], out => out
  | c :: r, out => if !out.contains c && l.contains c then firstsG l r (out ++ [c]) else firstsG l r out
def classesS (v : B) (l : List B) : B := joinL [32] (firstsG l (splitL 32 v) [])
def onceG (l : List B) : List B → List B → Bool
  | [], _ => true
  | c :: r, seen => !seen.contains c && l.contains c && onceG l r (c :: seen)
def classesOk (v : B) (l : List B) : Bool := onceG l (splitL 32 v) []

/-! ### places -/
def places : List B := [[104, 114, 101, 102], [115, 114, 99], [99, 105, 116, 101], [97, 99, 116, 105, 111, 110], [98, 97, 99, 107, 103, 114, 111, 117, 110, 100], [108, 111, 110, 103, 100, 101, 115, 99], [112, 105, 110, 103], [112, 111, 115, 116, 101, 114], [115, 114, 99, 115, 101, 116], [117, 115, 101, 109, 97, 112]]
def lowSp (c : UInt8) : Bool := decide (c.toNat ≤ 32)
def bareU (s : B) : B := (((s.dropWhile lowSp).reverse.dropWhile lowSp).reverse).filter fun c => c != 9 && c != 10 && c != 13
def schemeG : B → B → Option B
  | [], _ => none
  | c :: s, acc =>
    if smallB c then schemeG s (acc ++ [c])
    else if acc = [] then none
    else if c = 58 then some acc
    else if (decide (48 ≤ c.toNat) && decide (c.toNat ≤ 57)) || c == 43 || c == 45 || c == 46 then schemeG s (acc ++ [c])
    else none
def schemeU (s : B) : Option B := schemeG (lowL (bareU s)) []
def allowedU (s : B) (schemes : List B) : Bool :=
  match schemeU s with
  | some x => schemes.contains x
  | none => !([47, 47] : B).isPrefixOf (bareU s) && (bareU s).all fun c => decide (32 ≤ c.toNat) && c != 92 && c != 127

/-! ### cleaning -/
def forced : B := [110, 111, 102, 111, 108, 108, 111, 119, 32, 110, 111, 111, 112, 101, 110, 101, 114]
def valueP (p : Pol) (e : B) (a : Atr) : Bool :=
  elemP p e &&
  if a.name = relN then e == aN && a.val == forced
  else if a.name = styleN then !a.val.isEmpty && filterS a.val p.props == a.val
  else if a.name = classN then attrP p e a.name && !a.val.isEmpty && classesOk a.val p.classes
  else attrP p e a.name && (!places.contains a.name || allowedU a.val p.schemes)
def attrS (p : Pol) (e : B) (a : Atr) : Option Atr :=
  if a.name = relN then none else
  let b : Atr := if a.name = styleN then ⟨a.name, filterS a.val p.props⟩ else if a.name = classN then ⟨a.name, classesS a.val p.classes⟩ else a
  if valueP p e b then some b else none
def attrsS (p : Pol) (e : B) (l : List Atr) : List Atr :=
  let out := l.filterMap (attrS p e)
  if e = aN ∧ out.any (fun a => a.name == hrefN) = true then out ++ [⟨relN, forced⟩] else out
def drops : List B := [[101, 109, 98, 101, 100], [102, 111, 114, 109], [109, 97, 116, 104], [111, 98, 106, 101, 99, 116], [115, 101, 108, 101, 99, 116], [115, 118, 103], [116, 101, 109, 112, 108, 97, 116, 101], [110, 111, 115, 99, 114, 105, 112, 116], [102, 114, 97, 109, 101, 115, 101, 116]]
def dropL (n : B) : Bool := drops.contains n || (rawL n).1
def putS (out : List Nod) (n : Nod) : List Nod :=
  if n.name ≠ [] then out ++ [n] else if n.text = [] then out else match joinK n.text out with | some k => k | none => out ++ [txt n.text]
mutual
def nodeS (p : Pol) (out : List Nod) : Nod → List Nod
  | .mk n a t k => if n = [] then putS out (.mk n a t k) else if dropL n then out else if elemP p n then putS out (.mk n (attrsS p n a) [] (foldS p [] k)) else foldS p out k
def foldS (p : Pol) (out : List Nod) : List Nod → List Nod
  | [] => out
  | n :: r => foldS p (nodeS p out n) r
end
end Go.Proofs.YtlgaeeedkihfpaaGreatDoor.Tz
