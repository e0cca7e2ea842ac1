/- The machines of hatstand as plain Lean functions (no Go, no memory): what each step does to a memory of words, a source of draws, and the machine itself. -/
set_option linter.unusedSimpArgs false
set_option linter.unusedVariables false
set_option linter.unusedSectionVars false
namespace Hat

def P32 : Int := 4294967296
def P30 : Int := 1073741824
def M64 : Int := 18446744073709551615

/-! ## pack, slot -/
def pword (i t : Int) : Int := i + 4294967296 * t
def pindex (w : Int) : Int := w % 4294967296
def ptag (w : Int) : Int := w / 4294967296
def pnext (w i : Int) : Int := pword i ((ptag w + 1) % 4294967296)

def sword (s i st : Int) : Int := s % 4 + 4 * (i % 1073741824) + 4294967296 * st
def sstate (w : Int) : Int := w % 4
def sindex (w : Int) : Int := w / 4 % 1073741824
def sstamp (w : Int) : Int := w / 4294967296
def waits (push : Bool) : Int := if push then 1 else 2
def meets (w : Int) (push : Bool) : Bool := decide (sstate w = waits (!push))
def offer (w : Int) (push : Bool) (i : Int) : Int × Bool :=
  if sstate w = 0 then (sword (waits push) (if push then i else 0) (sstamp w), true) else (0, false)
def claim (w : Int) (push : Bool) (i : Int) : Int × Bool :=
  if meets w push then (sword 3 (if push then i else sindex w) (sstamp w), true) else (0, false)
def sclear (w : Int) : Int := sword 0 0 ((sstamp w + 1) % 4294967296)

/-! ## layout -/
structure Cfg where
  nodes : Int
  slots : Int
  holders : Int
  tag : Int

def Cfg.ok (c : Cfg) : Bool :=
  decide (1 ≤ c.nodes ∧ c.nodes ≤ 64 ∧ 0 ≤ c.slots ∧ c.slots ≤ 16 ∧ 0 ≤ c.holders ∧ c.holders ≤ 64)
def Cfg.next (c : Cfg) (i : Int) : Int := if c.ok = true ∧ 1 ≤ i ∧ i ≤ c.nodes then 2 * i else -1
def Cfg.value (c : Cfg) (i : Int) : Int := if c.ok = true ∧ 1 ≤ i ∧ i ≤ c.nodes then 2 * i + 1 else -1
def Cfg.slot (c : Cfg) (k : Int) : Int := if c.ok = true ∧ 0 ≤ k ∧ k < c.slots then 2 + 2 * c.nodes + k else -1
def Cfg.holder (c : Cfg) (j : Int) : Int := if c.ok = true ∧ 0 ≤ j ∧ j < c.holders then 2 + 2 * c.nodes + c.slots + j else -1
def Cfg.cells (c : Cfg) : Int := if c.ok = true then 2 + 2 * c.nodes + c.slots + c.holders else 0

/-! ## wmem -/
structure Note where
  kind : Int
  at_ : Int
  old : Int
  new : Int
  ok : Bool

structure Mem where
  ws : List Int
  ns : List Note

def Mem.has (m : Mem) (a : Int) : Bool := decide (0 ≤ a ∧ a < m.ws.length)
def Mem.get (m : Mem) (a : Int) : Int := m.ws.getD a.toNat 0
/-- What Load tells (the word, the error), and the memory behind it. -/
def Mem.load (m : Mem) (a : Int) : (Int × Int) × Mem :=
  if m.has a then ((m.get a, 0), { m with ns := m.ns ++ [⟨108, a, m.get a, m.get a, true⟩] }) else ((0, 2), m)
def Mem.store (m : Mem) (a w : Int) : Int × Mem :=
  if m.has a then (0, { ws := m.ws.set a.toNat w, ns := m.ns ++ [⟨115, a, m.get a, w, true⟩] }) else (2, m)
def Mem.swap (m : Mem) (a old new : Int) : (Bool × Int) × Mem :=
  if m.has a then
    if m.get a = old then ((true, 0), { ws := m.ws.set a.toNat new, ns := m.ns ++ [⟨99, a, m.get a, new, true⟩] })
    else ((false, 0), { m with ns := m.ns ++ [⟨99, a, m.get a, m.get a, false⟩] })
  else ((false, 2), m)

/-! ## source -/
structure Src where
  now : Int
  draws : List Int

def deadline (now wait : Int) : Int := min (now + wait) 18446744073709551615
def Src.tick (s : Src) (n : Int) : Src := { s with now := deadline s.now n }
def Src.add (s : Src) (d : Int) : Int × Src := if d ≥ 64 then (1, s) else (0, { s with draws := s.draws ++ [d] })
def Src.draw (s : Src) (n : Int) : Int × Src :=
  if n < 1 then (0, s) else match s.draws with
  | [] => (0, s)
  | d :: r => (d % n, { s with draws := r })

/-! ## policy -/
structure Pol where
  range : Int
  exp : Int

def pnew (slots : Int) : Pol := if slots = 0 then ⟨0, 0⟩ else ⟨1, 0⟩
def Pol.right (s : Pol) (slots : Int) : Bool :=
  decide (0 ≤ slots ∧ slots ≤ 16 ∧ 0 ≤ s.exp ∧ s.exp ≤ 6 ∧ (if slots = 0 then s.range = 0 else 1 ≤ s.range ∧ s.range ≤ slots))
def Pol.after (s : Pol) (slots status : Int) : Pol :=
  if status = 1 then ⟨s.range, 0⟩
  else if status = 3 then ⟨min (2 * s.range) slots, s.exp⟩
  else if status = 4 then ⟨(if s.range / 2 < 1 ∧ 0 < slots then 1 else s.range / 2), min (s.exp + 1) 6⟩
  else s
def dbl : Nat → Int → Int
  | 0, n => n
  | k + 1, n => dbl k (min (2 * n) 64)
def Pol.polls (s : Pol) (base : Int) : Int := dbl s.exp.toNat (min (max base 1) 64)

/-! ## taglist: one try at a list -/
structure Tl where
  c : Cfg
  at_ : Int
  give : Bool
  i : Int
  w : Int
  nx : Int
  pc : Nat
  st : Int

def Tl.take (c : Cfg) (a : Int) : Tl := ⟨c, a, false, 0, 0, 0, 0, 0⟩
def Tl.gives (c : Cfg) (a i : Int) : Tl := ⟨c, a, true, i, 0, 0, 0, 0⟩

def Tl.go (x : Tl) (m : Mem) : Tl × Mem :=
  match x.pc with
  | 0 =>
    if x.give then
      if x.c.next x.i < 0 then ({ x with st := 5 }, m) else
      let r := m.load x.at_
      if r.1.2 ≠ 0 then ({ x with st := 5 }, r.2) else ({ x with w := r.1.1, pc := 1 }, r.2)
    else
      let r := m.load x.at_
      let y := { x with w := r.1.1, i := pindex r.1.1 }
      if r.1.2 ≠ 0 then ({ y with st := 5 }, r.2)
      else if pindex r.1.1 = 0 then ({ y with st := 2 }, r.2)
      else if x.c.next (pindex r.1.1) < 0 then ({ y with st := 5 }, r.2)
      else ({ y with pc := 1 }, r.2)
  | 1 =>
    if x.give then
      let r := m.store (x.c.next x.i) (pindex x.w)
      if r.1 ≠ 0 then ({ x with st := 5 }, r.2) else ({ x with nx := x.i, pc := 2 }, r.2)
    else
      let r := m.load (x.c.next x.i)
      if r.1.2 ≠ 0 then ({ x with st := 5 }, r.2) else ({ x with nx := pindex r.1.1, pc := 2 }, r.2)
  | _ =>
    let r := m.swap x.at_ x.w (pnext x.w x.nx)
    if r.1.2 ≠ 0 then ({ x with st := 5 }, r.2)
    else if r.1.1 then ({ x with st := 1 }, r.2) else ({ x with st := 3 }, r.2)

def Tl.tells (x : Tl) : Int × Int := if x.st = 1 then (1, x.i) else (x.st, 0)
def Tl.step (x : Tl) (m : Mem) : (Int × Int) × Tl × Mem :=
  if x.st = 0 then let r := x.go m; (r.1.tells, r.1, r.2) else (x.tells, x, m)

/-! ## arena: by tries -/
structure Ar where
  c : Cfg
  give : Bool
  node : Int
  left : Int
  shelf : List Int
  now : Option Tl
  st : Int
  i : Int

def Ar.take (c : Cfg) (budget : Int) (shelf : List Int) : Ar := ⟨c, false, 0, max budget 0, shelf, none, 0, 0⟩
def Ar.gives (c : Cfg) (budget : Int) (shelf : List Int) (i : Int) : Ar := ⟨c, true, i, max budget 0, shelf, none, 0, 0⟩

def Ar.fresh (x : Ar) : Tl := if x.give then Tl.gives x.c 1 x.node else Tl.take x.c 1
def Ar.goOn (x : Ar) (m : Mem) : Ar × Mem :=
  if x.st ≠ 0 then (x, m) else
  let r := (x.now.getD x.fresh).step m
  if r.1.1 = 3 then
    ({ x with now := none, st := (if x.left = 0 then 6 else 0), i := r.1.2, left := x.left - 1 }, r.2.2)
  else ({ x with now := some r.2.1, st := r.1.1, i := r.1.2 }, r.2.2)
def Ar.go (x : Ar) (m : Mem) : Ar × Mem :=
  if x.give then
    let r := x.goOn m
    if r.1.st = 6 then ({ r.1 with shelf := r.1.shelf ++ [x.node], st := 1, i := x.node }, r.2) else r
  else if x.shelf ≠ [] ∧ x.st = 0 then
    ({ x with shelf := x.shelf.dropLast, st := 1, i := x.shelf.getLastD 0 }, m)
  else x.goOn m
def Ar.step (x : Ar) (m : Mem) : (Int × Int) × Ar × Mem :=
  let r := x.go m; ((r.1.st, r.1.i), r.1, r.2)

/-! ## exchange: a visit at a slot -/
structure Ex where
  at_ : Int
  push : Bool
  i : Int
  deadline : Int
  looks : Int
  w : Int
  found : Int
  pc : Nat
  st : Int
  offered : Bool

def Ex.new (a : Int) (push : Bool) (i deadline polls : Int) : Ex := ⟨a, push, i, deadline, max polls 1, 0, 0, 0, 0, false⟩

/-- 0 the first step, 1 a claim, 2 an offer, 3 a look, 4 a withdrawal, 5 a clearing. -/
def Ex.go (v : Ex) (m : Mem) (now : Int) : Ex × Mem :=
  match v.pc with
  | 0 =>
    let r := m.load v.at_
    if r.1.2 ≠ 0 then ({ v with st := 5 }, r.2) else
    if meets r.1.1 v.push then ({ v with w := r.1.1, pc := 1 }, r.2)
    else if sstate r.1.1 = 0 then ({ v with w := r.1.1, pc := 2 }, r.2)
    else ({ v with w := r.1.1, st := 3 }, r.2)
  | 1 =>
    let w := (claim v.w v.push v.i).1
    let r := m.swap v.at_ v.w w
    if r.1.2 ≠ 0 then ({ v with st := 5 }, r.2)
    else if r.1.1 then ({ v with st := 1, i := sindex w }, r.2) else ({ v with st := 3 }, r.2)
  | 2 =>
    let w := (offer v.w v.push v.i).1
    let r := m.swap v.at_ v.w w
    if r.1.2 ≠ 0 then ({ v with st := 5 }, r.2)
    else if r.1.1 then ({ v with w := w, offered := true, pc := 3 }, r.2) else ({ v with st := 3 }, r.2)
  | 3 =>
    let r := m.load v.at_
    if r.1.2 ≠ 0 then ({ v with st := 5 }, r.2) else
    if r.1.1 = v.w then
      ({ v with looks := v.looks - 1, pc := (if v.looks - 1 ≤ 0 ∨ now ≥ v.deadline then 4 else 3) }, r.2)
    else if sstate r.1.1 ≠ 3 ∨ sstamp r.1.1 ≠ sstamp v.w then ({ v with st := 5 }, r.2)
    else ({ v with i := sindex r.1.1, found := r.1.1, pc := 5 }, r.2)
  | 4 =>
    let r := m.swap v.at_ v.w (sclear v.w)
    if r.1.2 ≠ 0 then ({ v with st := 5, pc := 3 }, r.2)
    else if r.1.1 then ({ v with st := 4, pc := 3 }, r.2) else ({ v with pc := 3 }, r.2)
  | _ =>
    let r := m.store v.at_ (sclear v.found)
    if r.1 ≠ 0 then ({ v with st := 5 }, r.2) else ({ v with st := 1 }, r.2)

def Ex.tells (v : Ex) : Int × Int := if v.st = 1 ∧ v.push = false then (1, v.i) else (v.st, 0)
def Ex.step (v : Ex) (m : Mem) (now : Int) : (Int × Int) × Ex × Mem :=
  if v.st = 0 then let r := v.go m now; (r.1.tells, r.1, r.2) else (v.tells, v, m)
def Ex.met (v : Ex) (ws : List Int) : Bool :=
  if v.st ≠ 0 ∨ v.offered = false then decide (v.st = 1)
  else decide (v.at_ < ws.length ∧ ws.getD v.at_.toNat 0 ≠ v.w)

/-! ## elim: a visit at a slot of some -/
structure El where
  c : Cfg
  s : Pol
  push : Bool
  i : Int
  base : Int
  wait : Int
  place : Int
  ended : Int
  v : Option Ex

def El.new (c : Cfg) (s : Pol) (push : Bool) (i base wait : Int) : El := ⟨c, s, push, i, base, wait, -1, 0, none⟩

def El.begun (x : El) (r : Src) : El × Src :=
  let d := r.draw x.s.range
  let p := x.c.slot d.1
  ({ x with place := p, v := some (Ex.new p x.push x.i (Hat.deadline d.2.now x.wait) (x.s.polls x.base)) }, d.2)
def El.does (x : El) (v : Ex) (m : Mem) (r : Src) : (Int × Int) × El × Mem × Src :=
  let t := v.step m r.now
  (t.1, { x with v := some t.2.1,
                 ended := (if x.ended = 0 ∧ t.1.1 ≠ 0 then t.1.1 else x.ended),
                 s := (if x.ended = 0 ∧ t.1.1 ≠ 0 then x.s.after x.c.slots t.1.1 else x.s) }, t.2.2, r)
def El.step (x : El) (m : Mem) (r : Src) : (Int × Int) × El × Mem × Src :=
  if x.ended = 2 then ((2, 0), x, m, r) else
  match x.v with
  | some v => x.does v m r
  | none =>
    if x.c.ok = false ∨ x.c.slots = 0 ∨ x.s.right x.c.slots = false then ((2, 0), { x with ended := 2 }, m, r)
    else
      let b := x.begun r
      match b.1.v with
      | some v => b.1.does v m b.2
      | none => ((0, 0), x, m, r)
def El.met (x : El) (ws : List Int) : Bool := match x.v with | some v => v.met ws | none => false

/-! ## ebstack -/
structure ECfg where
  l : Cfg
  budget : Int
  base : Int
  wait : Int

def ECfg.ok (c : ECfg) : Bool := c.l.ok && decide (0 ≤ c.budget ∧ c.budget ≤ 16 ∧ 1 ≤ c.base ∧ c.base ≤ 64)

structure Thr where
  shelf : List Int
  pol : Pol

def ECfg.fresh (c : ECfg) : Thr := ⟨[], pnew c.l.slots⟩

inductive Part where
  | take (a : Ar)
  | give (a : Ar)
  | tl (x : Tl)
  | visit (v : El)
  | acc (a : Int) (write : Bool)

structure Op where
  c : ECfg
  t : Thr
  push : Bool
  v : Int
  i : Int
  failed : Int
  part : Part
  st : Int
  retry : Bool

def Op.begun (c : ECfg) (t : Thr) (push : Bool) (v : Int) (p : Part) : Op :=
  ⟨c, t, push, v, 0, 0, p, (if c.ok = true ∧ t.pol.right c.l.slots = true then 0 else 5), false⟩
def Op.newPush (c : ECfg) (t : Thr) (v : Int) : Op := Op.begun c t true v (.take (Ar.take c.l c.budget t.shelf))
def Op.newPop (c : ECfg) (t : Thr) : Op := Op.begun c t false 0 (.tl (Tl.take c.l 0))

def Op.core (o : Op) : Op :=
  { o with part := .tl (if o.push then Tl.gives o.c.l 0 o.i else Tl.take o.c.l 0), st := 0 }
def Op.back (o : Op) : Op := { o with part := .give (Ar.gives o.c.l o.c.budget o.t.shelf o.i), st := 0 }
def Op.has (o : Op) (i : Int) : Op := { o with i := i, part := .acc (o.c.l.value i) false, st := 0 }
def Op.contended (o : Op) : Op :=
  let p := { o with failed := o.failed + 1 }
  if p.failed > o.c.budget then
    if o.push then { p with retry := true }.back else { p with st := 6 }
  else if o.c.l.slots = 0 then p.core
  else { p with part := .visit (El.new o.c.l o.t.pol o.push o.i o.c.base o.c.wait), st := 0 }

def Op.go (o : Op) (m : Mem) (r : Src) : Op × Mem × Src :=
  match o.part with
  | .take a =>
    let s := a.step m
    let p := { o with part := .take s.2.1, t := { o.t with shelf := s.2.1.shelf } }
    if s.1.1 ≠ 1 then ({ p with st := s.1.1 }, s.2.2, r)
    else ({ p with i := s.1.2, part := .acc (o.c.l.value s.1.2) true, st := 0 }, s.2.2, r)
  | .give a =>
    let s := a.step m
    let p := { o with part := .give s.2.1, t := { o.t with shelf := s.2.1.shelf } }
    if s.1.1 ≠ 1 then ({ p with st := s.1.1 }, s.2.2, r)
    else ({ p with i := 0, st := (if o.retry then 6 else 1) }, s.2.2, r)
  | .visit v =>
    let s := v.step m r
    let p := { o with part := .visit s.2.1, t := { o.t with pol := s.2.1.s } }
    if s.1.1 = 0 ∨ s.1.1 = 5 then ({ p with st := s.1.1 }, s.2.2.1, s.2.2.2)
    else if s.1.1 ≠ 1 then (p.core, s.2.2.1, s.2.2.2)
    else if o.push then ({ p with i := 0, st := 1 }, s.2.2.1, s.2.2.2)
    else (p.has s.1.2, s.2.2.1, s.2.2.2)
  | .acc a write =>
    if write then
      let s := m.store a o.v
      if s.1 ≠ 0 then ({ o with st := 5 }, s.2, r) else (o.core, s.2, r)
    else
      let s := m.load a
      if s.1.2 ≠ 0 then ({ o with st := 5 }, s.2, r) else ({ o with v := s.1.1 }.back, s.2, r)
  | .tl x =>
    let s := x.step m
    let p := { o with part := .tl s.2.1 }
    if s.1.1 = 3 then (p.contended, s.2.2, r)
    else if s.1.1 ≠ 1 then ({ p with st := s.1.1 }, s.2.2, r)
    else if o.push then ({ p with i := 0, st := 1 }, s.2.2, r)
    else (p.has s.1.2, s.2.2, r)

def Op.tells (o : Op) : Int × Int := if o.push = true ∨ o.st ≠ 1 then (o.st, 0) else (1, o.v)
def Op.step (o : Op) (m : Mem) (r : Src) : (Int × Int) × Op × Mem × Src :=
  if o.st = 0 then let s := o.go m r; (s.1.tells, s.1, s.2.1, s.2.2) else (o.tells, o, m, r)
def Op.held (o : Op) (ws : List Int) : List Int :=
  let i := match o.part with
    | .visit v => if o.st = 0 ∧ v.met ws = true then (if o.push then 0 else sindex (ws.getD v.place.toNat 0)) else o.i
    | _ => o.i
  if i = 0 then [] else [i]

/-! ## pool -/
structure User where
  c : ECfg
  t : Thr
  who : Int
  id : Int
  release : Bool
  op : Option Op
  pc : Nat
  st : Int

def poolOk (c : ECfg) : Bool := c.ok && decide (c.l.holders ≠ 0 ∧ c.l.holders ≤ c.l.nodes)
def User.begun (c : ECfg) (t : Thr) (who id : Int) (release : Bool) : User :=
  ⟨c, t, who, id, release, none, 0, (if poolOk c = true ∧ 0 ≤ who then 0 else 5)⟩
def User.place (u : User) : Int := if u.id ≥ u.c.l.holders then -1 else u.c.l.holder u.id

/-- An acquire: 0 pops, 1 takes. A release: 0 asks, 1 leaves, 2 pushes, 3 keeps. -/
def User.go (u : User) (m : Mem) (r : Src) : User × Mem × Src :=
  if u.release then
    match u.pc with
    | 0 =>
      if u.place < 0 then ({ u with st := 7 }, m, r) else
      let s := m.load u.place
      if s.1.2 ≠ 0 then ({ u with st := 5 }, s.2, r)
      else if s.1.1 ≠ u.who + 1 then ({ u with st := 7 }, s.2, r)
      else ({ u with pc := 1 }, s.2, r)
    | 1 =>
      let s := m.store u.place 0
      if s.1 ≠ 0 then ({ u with pc := 2, st := 5 }, s.2, r) else ({ u with pc := 2 }, s.2, r)
    | 2 =>
      let s := (u.op.getD (Op.newPush u.c u.t u.id)).step m r
      let v := { u with t := s.2.1.t, op := (if s.1.1 = 0 then some s.2.1 else none) }
      if s.1.1 = 2 ∨ s.1.1 = 6 then ({ v with pc := 3 }, s.2.2.1, s.2.2.2)
      else ({ v with st := s.1.1 }, s.2.2.1, s.2.2.2)
    | _ =>
      let s := m.store u.place (u.who + 1)
      if s.1 ≠ 0 then ({ u with st := 5 }, s.2, r) else ({ u with st := 6 }, s.2, r)
  else
    match u.pc with
    | 0 =>
      let s := (u.op.getD (Op.newPop u.c u.t)).step m r
      let v := { u with t := s.2.1.t, op := (if s.1.1 = 0 then some s.2.1 else none) }
      if s.1.1 ≠ 1 then ({ v with st := s.1.1 }, s.2.2.1, s.2.2.2)
      else ({ v with id := s.1.2, pc := 1 }, s.2.2.1, s.2.2.2)
    | _ =>
      let s := m.store u.place (u.who + 1)
      if s.1 ≠ 0 then ({ u with st := 5 }, s.2, r) else ({ u with st := 1 }, s.2, r)

def User.tells (u : User) : Int × Int := if u.st = 1 ∧ u.release = false then (1, u.id) else (u.st, 0)
def User.step (u : User) (m : Mem) (r : Src) : (Int × Int) × User × Mem × Src :=
  if u.st = 0 then let s := u.go m r; (s.1.tells, s.1, s.2.1, s.2.2) else (u.tells, u, m, r)
def User.held (u : User) (ws : List Int) : List Int := match u.op with | some o => o.held ws | none => []

end Hat
