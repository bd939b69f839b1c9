/- The store, as plain data: configurations, trees, votes, ledgers, changes. No program in it. -/
import Derived.Test.YtnppimhlfcjghaaEvt
namespace Go.Proofs.Ytnppimhlfcjghaa
open Go.RowKit

/-! ## Configurations, numbers -/
structure Cf where
  bal : List Int
  slots : Int
  boost : Int
  deriving DecidableEq
structure Cf.ok (c : Cf) : Prop where
  l1 : 1 ≤ c.bal.length
  l2 : c.bal.length ≤ 4096
  b0 : ∀ x ∈ c.bal, 0 ≤ x ∧ x ≤ 4294967296
  s1 : 1 ≤ c.slots
  s2 : c.slots ≤ 64
  t1 : 0 ≤ c.boost
  t2 : c.boost ≤ 100
def epochOf (slot slots : Int) : Int := max 0 slot / max 1 slots
def epochStart (e slots : Int) : Int := max 0 e * max 1 slots
/-- The epochs that end between two slots (4096 at most). -/
def endsL (from_ to slots : Int) : List Int := (List.range (min (epochOf to slots - epochOf from_ slots).toNat 4096)).map fun (k : Nat) => epochOf from_ slots + (k : Int)
def sumI : List Int → Int
  | [] => 0
  | x :: r => x + sumI r
def balAt (bal : List Int) (k : Int) : Int := if 0 ≤ k ∧ k < bal.length then bal.getD k.toNat 0 else 0
def sumW (bal : List Int) (who : List Int) : Int := sumI (who.map (balAt bal))
def iota (n : Nat) : List Int := (List.range n).map fun (k : Nat) => (k : Int)
def totalW (c : Cf) : Int := sumW c.bal (iota c.bal.length)
def boostW (c : Cf) : Int := totalW c / max 1 c.slots * max 0 c.boost / 100
def enough (some all : Int) : Bool := decide (0 < all) && decide (2 * (all / 3) + (2 * (all % 3) + 2) / 3 ≤ some)

/-! ## Votes -/
def whoBad (n : Int) (who : List Int) (k : Nat) : Bool := decide (who.getD k 0 < 0) || decide (n ≤ who.getD k 0) || (decide (0 < k) && decide (who.getD k 0 ≤ who.getD (k - 1) 0))
def whoOk (n : Int) (who : List Int) : Bool := (List.range who.length).all fun k => !whoBad n who k
def rightB (c : Cf) (v : Vt) : Bool :=
  !(v.who.length == 0) && decide (0 ≤ v.slot) && decide (0 ≤ v.src.e) && decide (v.src.e ≤ v.tgt.e) && (v.tgt.e == epochOf v.slot c.slots) && whoOk c.bal.length v.who
def sameB (a b : Vt) : Bool := (a.slot == b.slot) && (a.head == b.head) && (a.src == b.src) && (a.tgt == b.tgt)
def doubleB (a b : Vt) : Bool := (a.tgt.e == b.tgt.e) && !sameB a b
def aroundB (a b : Vt) : Bool := decide (a.src.e < b.src.e) && decide (b.tgt.e < a.tgt.e)
def badB (a b : Vt) : Bool := doubleB a b || aroundB a b || aroundB b a
def bothL (a b : Vt) : List Int := a.who.filter fun x => b.who.contains x
/-- Whom a proof shows; nobody: ErrProof. -/
def slashWho (c : Cf) (p : Pf) : List Int := if rightB c p.a && rightB c p.b && badB p.a p.b then bothL p.a p.b else []

/-! ## The last votes -/
structure En where
  has : Bool
  epoch : Int
  root : Int
  banned : Bool
  deriving DecidableEq
def En.zero : En := ⟨false, 0, 0, false⟩
def entry (v : List En) (k : Int) : Option En := if 0 ≤ k then v[k.toNat]? else none
/-- Take: does it count, and what the votes are. -/
def takes (v : List En) (who epoch : Int) : Bool :=
  match entry v who with
  | none => false
  | some x => !(x.banned || (x.has && decide (epoch ≤ x.epoch)))
def takeV (v : List En) (who epoch root : Int) : List En := if takes v who epoch then v.set who.toNat ⟨true, epoch, root, false⟩ else v
def bans (v : List En) (who : Int) : Bool :=
  match entry v who with
  | none => false
  | some x => !x.banned
def banV (v : List En) (who : Int) : List En := if bans v who then v.modify who.toNat fun x => { x with banned := true } else v
def getV (v : List En) (who : Int) : Int × Bool :=
  match entry v who with
  | none => (0, false)
  | some x => if !x.has || x.banned then (0, false) else (x.root, true)

/-! ## Maps: what lies in them, in the order of their entries -/
def lk {α : Type} (l : List (Int × α)) (k : Int) : Option α := l.lookup k
def put {α : Type} : List (Int × α) → Int → α → List (Int × α)
  | [], k, v => [(k, v)]
  | (k', v') :: r, k, v => if k = k' then (k', v) :: r else (k', v') :: put r k v
def del {α : Type} : List (Int × α) → Int → List (Int × α)
  | [], _ => []
  | (k', v') :: r, k => if k = k' then r else (k', v') :: del r k
def keys {α : Type} (l : List (Int × α)) : List Int := l.map (·.1)
def sortI (l : List Int) : List Int := l.mergeSort fun x y => decide (x ≤ y)

/-! ## Trees -/
structure Nd where
  parent : Int
  slot : Int
  height : Int
  deriving DecidableEq
def Nd.zero : Nd := ⟨0, 0, 0⟩
structure Tr where
  first : Int
  nodes : List (Int × Nd)
def Tr.of (root slot : Int) : Tr := ⟨root, [(root, ⟨root, slot, 0⟩)]⟩
def Tr.has (t : Tr) (r : Int) : Bool := (lk t.nodes r).isSome
def Tr.nd (t : Tr) (r : Int) : Nd := (lk t.nodes r).getD Nd.zero
/-- The last block on r's chain whose slot is not above one. -/
def Tr.atF (t : Tr) (slot : Int) : Nat → Int → Int
  | 0, r => r
  | n + 1, r => if r ≠ t.first ∧ slot < (t.nd r).slot then Tr.atF t slot n (t.nd r).parent else r
def Tr.at_ (t : Tr) (r slot : Int) : Int := if t.has r then t.atF slot (t.nd r).height.toNat r else 0
def Tr.below (t : Tr) (r on : Int) : Bool := t.has on && (t.has r && (t.at_ r (t.nd on).slot == on))
def Tr.roots (t : Tr) : List Int := sortI (keys t.nodes)
def Tr.kids (t : Tr) (r : Int) : List Int := t.roots.filter fun x => !(x == t.first) && ((t.nd x).parent == r)
structure Tr.ok (t : Tr) : Prop where
  nodup : (keys t.nodes).Nodup
  fst : t.has t.first = true
  rng : ∀ p ∈ t.nodes, (0 ≤ p.1 ∧ p.1 ≤ 18446744073709551615) ∧ (0 ≤ p.2.parent ∧ p.2.parent ≤ 18446744073709551615) ∧ (0 ≤ p.2.slot ∧ p.2.slot ≤ 1099511627776) ∧ 0 ≤ p.2.height ∧ p.2.height ≤ p.2.slot
  up : ∀ r, t.has r = true → r ≠ t.first → t.has (t.nd r).parent = true ∧ (t.nd (t.nd r).parent).slot < (t.nd r).slot ∧ (t.nd r).height = (t.nd (t.nd r).parent).height + 1
  len : t.nodes.length ≤ 1024
/-- Add: an error's number; 0. -/
def Tr.addE (t : Tr) (root parent slot : Int) : Int :=
  if t.has root then 6
  else if t.has parent = false then 5
  else if slot ≤ (t.nd parent).slot then 7
  else if 1024 ≤ t.nodes.length then 12
  else 0
def Tr.add (t : Tr) (root parent slot : Int) : Tr := ⟨t.first, put t.nodes root ⟨parent, slot, (t.nd parent).height + 1⟩⟩
def Tr.gone (t : Tr) (root : Int) : List Int := t.roots.filter fun r => !t.below r root
/-- What stays, as it is laid: the first one's parent is set last. -/
def Tr.stay (t : Tr) (root : Int) : List (Int × Nd) := (t.roots.filter fun r => t.below r root).map fun r => (r, { t.nd r with height := (t.nd r).height - (t.nd root).height })
def Tr.cut (t : Tr) (root : Int) : Tr := ⟨root, put (t.stay root) root { (lk (t.stay root) root).getD Nd.zero with parent := root }⟩

/-! ## Justification, ledgers -/
structure Js where
  b0 : Bool
  b1 : Bool
  b2 : Bool
  b3 : Bool
  prev : Pt
  cur : Pt
  fin : Pt
  deriving DecidableEq
def Js.zero : Js := ⟨false, false, false, false, Pt.zero, Pt.zero, Pt.zero⟩
def nextJ (s : Js) (epoch : Int) (before now : Bool) (first second : Pt) : Js :=
  let c0 := now
  let c1 := before || s.b0
  let c2 := s.b1
  let c3 := s.b2
  ⟨c0, c1, c2, c3, s.cur, if now then second else if before then first else s.cur,
    if c0 && c1 && (s.cur.e + 1 == epoch) then s.cur
    else if c0 && c1 && c2 && (s.cur.e + 2 == epoch) then s.cur
    else if c1 && c2 && (s.prev.e + 2 == epoch) then s.prev
    else if c1 && c2 && c3 && (s.prev.e + 3 == epoch) then s.prev
    else s.fin⟩
structure Ls where
  j : Js
  epoch : Int
  before : List Bool
  now : List Bool
  deriving DecidableEq
def Ls.zero : Ls := ⟨Js.zero, 0, [], []⟩
def openL (c : Cf) (root : Int) : Ls := ⟨⟨false, false, false, false, ⟨0, root⟩, ⟨0, root⟩, ⟨0, root⟩⟩, 0, List.replicate c.bal.length false, List.replicate c.bal.length false⟩
def pointL (c : Cf) (e : Int) (at_ : Int → Int) : Pt := ⟨max 0 e, at_ (epochStart e c.slots)⟩
def whoL (is : List Bool) : List Int := (iota is.length).filter fun k => is.getD k.toNat false
def pullL (c : Cf) (s : Ls) (at_ : Int → Int) : Js :=
  if s.epoch < 2 then s.j
  else nextJ s.j s.epoch (enough (sumW c.bal (whoL s.before)) (totalW c)) (enough (sumW c.bal (whoL s.now)) (totalW c)) (pointL c (s.epoch - 1) at_) (pointL c s.epoch at_)
def stepL (c : Cf) (at_ : Int → Int) (s : Ls) (e : Int) : Ls := ⟨pullL c s at_, e + 1, s.now, List.replicate c.bal.length false⟩
def advanceL (c : Cf) (s : Ls) (slot : Int) (at_ : Int → Int) : Ls := (endsL (s.epoch * max 1 c.slots) slot c.slots).foldl (stepL c at_) s
def countB (c : Cf) (s : Ls) (v : Vt) (at_ : Int → Int) : Bool :=
  rightB c v && ((v.tgt.e == s.epoch) || (v.tgt.e + 1 == s.epoch)) && (v.src == if v.tgt.e == s.epoch then s.j.cur else s.j.prev) && (v.tgt == pointL c v.tgt.e at_)
def setAll (is : List Bool) (who : List Int) : List Bool := who.foldl (fun l k => l.set k.toNat true) is
def countL (c : Cf) (at_ : Int → Int) (s : Ls) (v : Vt) : Ls :=
  if countB c s v at_ then (if v.tgt.e == s.epoch then { s with now := setAll s.now v.who } else { s with before := setAll s.before v.who }) else s

/-! ## The store -/
structure Chg where
  kind : Int
  root : Int
  parent : Int
  who : Int
  frm : Int
  had : Bool
  deriving DecidableEq
structure St where
  c : Cf
  tree : Tr
  votes : List En
  slot : Int
  boosted : Int
  just : Pt
  fin : Pt
  ledgers : List (Int × Ls)
  gone : List (Int × Bool)
def St.of (c : Cf) : St := ⟨c, Tr.of 1 0, List.replicate c.bal.length En.zero, 0, 0, ⟨0, 1⟩, ⟨0, 1⟩, [(1, openL c 1)], []⟩
/-- A store and the changes so far. -/
abbrev SC := St × List Chg
def attestE (s : St) (v : Vt) (inside : Bool) : Int :=
  if !rightB s.c v then 9
  else if s.slot < v.slot ∨ (inside = false ∧ v.slot = s.slot) then 4
  else if inside = false ∧ v.tgt.e + 1 < epochOf s.slot s.c.slots then 3
  else if s.tree.has v.head = false ∨ v.slot < (s.tree.nd v.head).slot then 10
  else if s.tree.at_ v.head (epochStart v.tgt.e s.c.slots) ≠ v.tgt.r then 9
  else 0
def moveOne (epoch root : Int) (x : SC) (k : Int) : SC :=
  if takes x.1.votes k epoch then ({ x.1 with votes := takeV x.1.votes k epoch root }, x.2 ++ [⟨1, root, 0, k, (getV x.1.votes k).1, (getV x.1.votes k).2⟩]) else x
def attestS (x : SC) (v : Vt) (inside : Bool) : SC :=
  if attestE x.1 v inside = 0 then v.who.foldl (moveOne v.tgt.e v.head) x else x
def banOne (x : SC) (k : Int) : SC :=
  if bans x.1.votes k then ({ x.1 with votes := banV x.1.votes k }, x.2 ++ [⟨2, 0, 0, k, (getV x.1.votes k).1, (getV x.1.votes k).2⟩]) else x
def slashE (s : St) (p : Pf) : Int := if (slashWho s.c p).length = 0 then 11 else 0
def slashS (x : SC) (p : Pf) : SC := (slashWho x.1.c p).foldl banOne x
def delAll {α : Type} (l : List (Int × α)) (ks : List Int) : List (Int × α) := ks.foldl del l
def putAll (l : List (Int × Bool)) (ks : List Int) : List (Int × Bool) := ks.foldl (fun l k => put l k true) l
def raiseJ (s : St) (j : Pt) : St := if s.just.e < j.e ∧ s.tree.below j.r s.fin.r = true then { s with just := j } else s
def cutS (s : St) (f : Pt) : St :=
  { s with fin := f, tree := s.tree.cut f.r, ledgers := delAll s.ledgers (s.tree.gone f.r), gone := putAll s.gone (s.tree.gone f.r),
           boosted := if (s.tree.cut f.r).has s.boosted then s.boosted else 0 }
def raiseS (x : SC) (j f : Pt) : SC :=
  let s := raiseJ x.1 j
  if f.e ≤ s.fin.e ∨ s.tree.below f.r s.fin.r = false ∨ s.tree.below s.just.r f.r = false then (s, x.2)
  else (cutS s f, x.2 ++ [⟨3, f.r, 0, 0, 0, false⟩])
def proposeE (s : St) (b : Bk) : Int :=
  if s.slot < b.slot then 4
  else if b.root = 0 then 13
  else if 16 < b.votes.length ∨ 16 < b.proofs.length then 12
  else if (lk s.gone b.root).getD false = true then 6
  else s.tree.addE b.root b.parent b.slot
/-- The ledger of a block that is laid, ahead of all else. -/
def ledgerP (s : St) (b : Bk) : Ls := b.votes.foldl (countL s.c ((s.tree.add b.root b.parent b.slot).at_ b.root)) (advanceL s.c ((lk s.ledgers b.parent).getD Ls.zero) b.slot ((s.tree.add b.root b.parent b.slot).at_ b.root))
def proposeS (s : St) (b : Bk) : SC :=
  let l := ledgerP s b
  let x0 : SC := ({ s with tree := s.tree.add b.root b.parent b.slot, ledgers := put s.ledgers b.root l }, [⟨0, b.root, b.parent, 0, 0, false⟩])
  let x1 := b.votes.foldl (fun x v => attestS x v true) x0
  let x2 := b.proofs.foldl slashS x1
  let x3 : SC := (if b.slot = x2.1.slot ∧ x2.1.boosted = 0 then { x2.1 with boosted := b.root } else x2.1, x2.2)
  let x4 := raiseS x3 l.j.cur l.j.fin
  let p := pullL x4.1.c l (x4.1.tree.at_ b.root)
  if epochOf b.slot x4.1.c.slots < epochOf x4.1.slot x4.1.c.slots then raiseS x4 p.cur p.fin else x4
/-- Apply: the store, the changes, the error's number. -/
def applyS (s : St) (e : Ev) : SC × Int :=
  if e.kind = 0 then
    if e.slot ≤ s.slot then ((s, []), 3) else if 1099511627776 < e.slot then ((s, []), 4) else (({ s with slot := e.slot, boosted := 0 }, []), 0)
  else if e.kind = 1 then
    if proposeE s e.block = 0 then (proposeS s e.block, 0) else ((s, []), proposeE s e.block)
  else if e.kind = 2 then (attestS (s, []) e.vote false, attestE s e.vote false)
  else if e.kind = 3 then (slashS (s, []) e.proof, slashE s e.proof)
  else ((s, []), 1)
/-- The sources of a view. -/
def sourceOf (s : St) (r : Int) (l : Ls) : Int :=
  if epochOf (s.tree.nd r).slot s.c.slots < epochOf s.slot s.c.slots then (pullL s.c l (s.tree.at_ r)).cur.e else l.j.cur.e
end Go.Proofs.Ytnppimhlfcjghaa
