/- Parts of the proof. -/
import Derived.RowKit
set_option linter.unusedVariables false
set_option linter.unusedSimpArgs false
set_option linter.unusedSectionVars false
set_option maxRecDepth 100000
set_option maxHeartbeats 6400000
namespace Hst
open Go.RowKit (wrap64)
structure Ev where
  kind : Int
  g : Int
  m : Int
  p : Int
  value : Int
structure Ring where
  l : List Int
  is : Bool
  next : Int
  streak : Int
def Ring.new : Ring := { l := [], is := false, next := -1, streak := 0 }
def Ring.len (r : Ring) : Nat := if r.is then r.l.length + 1 else r.l.length
def Ring.all (r : Ring) : List Int := if r.is then r.l ++ [r.next] else r.l
def Ring.put (r : Ring) (g : Int) : Ring × List Int :=
  if r.l.length = 256 then ({ r with l := r.l.drop 128 }, r.l.take 128 ++ [g]) else ({ r with l := r.l ++ [g] }, [])
def Ring.ready (r : Ring) (g : Int) : Ring × List Int :=
  if r.is then Ring.put { r with next := g, is := true } r.next else ({ r with next := g, is := true }, [])
def Ring.putAll (r : Ring) (l : List Int) : Ring × List Int :=
  ({ r with l := r.l ++ l.take (256 - r.l.length) }, l.drop (256 - r.l.length))
def Ring.get (r : Ring) : Ring × Int × Bool :=
  if r.is = true ∧ r.l = [] then ({ r with streak := 0, is := false }, r.next, true)
  else if r.is = true ∧ r.streak < 4 then ({ r with streak := r.streak + 1, is := false }, r.next, true)
  else match r.l with
    | [] => (r, 0, false)
    | g :: t => if r.is then ({ l := t ++ [r.next], is := false, next := r.next, streak := 0 }, g, true) else ({ r with l := t, streak := 0 }, g, true)
def Ring.steal (r : Ring) : Ring × List Int :=
  if r.l = [] ∧ r.is = true then ({ r with streak := 0, is := false }, [r.next])
  else ({ r with l := r.l.drop ((r.l.length + 1) / 2) }, r.l.take ((r.l.length + 1) / 2))
structure Idle where
  p : Nat
  pending : List Int
  m : List Int
  poller : Int
def low (x : Nat) : Nat := ((List.range 64).find? fun i => x.testBit i).getD 64
def Idle.takeP (x : Idle) : Idle × Int × Bool :=
  if x.p = 0 then (x, 0, false) else ({ x with p := x.p ^^^ 2 ^ low x.p }, (low x.p : Int), true)
def Idle.putP (x : Idle) (p : Int) : Idle × Bool :=
  if p ∈ x.pending ∨ x.p.testBit p.toNat = true then (x, false) else ({ x with p := x.p ^^^ 2 ^ p.toNat }, true)
def Idle.pend (x : Idle) (p : Int) : Idle × Bool :=
  if x.p.testBit p.toNat = true ∨ p ∈ x.pending then (x, false) else ({ x with pending := x.pending ++ [p] }, true)
def Idle.takePending (x : Idle) : Idle × Int × Bool :=
  match x.pending with
  | [] => (x, 0, false)
  | p :: t => ({ x with pending := t }, p, true)
def Idle.stop (x : Idle) (m : Int) : Idle × Bool × Bool :=
  if m = x.poller ∨ m ∈ x.m then (x, false, false)
  else if x.poller = -1 then ({ x with poller := m }, true, true)
  else ({ x with m := x.m ++ [m] }, false, true)
def Idle.takeM (x : Idle) : Idle × Int × Bool :=
  if x.m = [] then ({ x with poller := -1 }, max 0 x.poller, x.poller != -1)
  else ({ x with m := x.m.dropLast }, x.m.getLastD 0, true)
def Idle.leave (x : Idle) (m : Int) : Idle × Bool :=
  if m = x.poller then ({ x with poller := -1 }, true) else (x, false)
structure Ent where
  whenT : Int
  order : Nat
  g : Int
structure Fd where
  fd : Nat
  g : Int
  waits : Bool
  ready : Bool
structure Src where
  now : Int
  tm : List Ent
  order : Nat
  fds : List Fd
def Src.new : Src := { now := 0, tm := [], order := 0, fds := [] }
def Ent.ahead (a b : Ent) : Bool :=
  decide (a.whenT < b.whenT) || (a.whenT == b.whenT && (decide (a.order < b.order) || (a.order == b.order && decide (a.g < b.g))))
def zeq : List Ent → Option Ent
  | [] => none
  | e :: t => match zeq t with
    | none => some e
    | some x => if e.ahead x then some e else some x
def Src.hasT (s : Src) (g : Int) : Bool := s.tm.any fun e => e.g == g
def Src.hasP (s : Src) (g : Int) : Bool := s.fds.any fun x => x.waits && x.g == g
def Src.timerDue (s : Src) : Bool := s.tm.any fun e => decide (e.whenT ≤ s.now)
def Src.fdDue (s : Src) : Bool := s.fds.any fun x => x.waits && x.ready
def Src.due (s : Src) : Bool := s.timerDue || s.fdDue
def Src.fd? (s : Src) (fd : Nat) : Option Fd := s.fds.find? fun x => x.fd == fd
def Src.full (s : Src) (fd : Nat) : Bool := (s.fd? fd).isNone && decide (1024 ≤ s.fds.length)
def sumT (t d : Int) : Int := if t + d > 9223372036854775807 then 9223372036854775807 else if t + d < -9223372036854775808 then -9223372036854775808 else t + d
def Src.tick (s : Src) (d : Int) : Src := { s with now := sumT s.now (max 0 d) }
def zeo (l : List Fd) (x : Fd) : List Fd := if l.any (fun y => y.fd == x.fd) then l.map fun y => if y.fd == x.fd then x else y else l ++ [x]
def Src.ready (s : Src) (fd : Nat) : Src × Bool :=
  if s.full fd then (s, false) else
  match s.fd? fd with
  | some x => ({ s with fds := zeo s.fds { x with ready := true } }, true)
  | none => ({ s with fds := zeo s.fds { fd := fd, g := 0, waits := false, ready := true } }, true)
def Src.sleep (s : Src) (g d : Int) : Src := { s with tm := s.tm ++ [{ whenT := sumT s.now (max 0 d), order := s.order, g := g }], order := s.order + 1 }
def Src.wait (s : Src) (fd : Nat) (g : Int) : Src × Bool :=
  if s.hasT g || s.hasP g || ((s.fd? fd).map (·.waits)).getD false || s.full fd then (s, false)
  else ({ s with fds := zeo s.fds { fd := fd, g := g, waits := true, ready := ((s.fd? fd).map (·.ready)).getD false } }, true)
def zej : List Fd → Option Fd
  | [] => none
  | x :: t => if x.waits && x.ready then (match zej t with
      | none => some x
      | some y => if x.fd ≤ y.fd then some x else some y) else zej t
def Src.take (s : Src) : Src × Int × Bool :=
  match zeq (s.tm.filter fun e => decide (e.whenT ≤ s.now)) with
  | some e => ({ s with tm := s.tm.filter fun x => x.order != e.order }, e.g, true)
  | none => match zej s.fds with
    | some x => ({ s with fds := s.fds.filter fun y => y.fd != x.fd }, x.g, true)
    | none => (s, 0, false)
structure Mach where
  place : Nat
  p : Int
  g : Int
  next : Int
  got : Int
  target : Int
  i : Int
  spin : Bool
  inn : Bool
  rest : List Int
  back : Nat
  after : Nat
  arg : Int
  lkN : Int
  lkS : Int
  stage : Nat
  ticket : Nat
  times : Int
def Mach.fresh : Mach :=
  { place := 16, p := -1, g := -1, next := -1, got := -1, target := -1, i := 0, spin := false, inn := false, rest := [], back := 0, after := 0, arg := 0, lkN := 0, lkS := 0, stage := 0, ticket := 0, times := 0 }
structure Wd where
  P : Nat
  M : Nat
  G : Nat
  ws : List Nat
  cnt : Int
  rings : List Ring
  turns : List Int
  glob : List Int
  src : Src
  idle : Idle
  all : List Mach
  flag : List Bool
  log : List Ev
namespace Wd
def mach (w : Wd) (i : Nat) : Mach := w.all.getD i Mach.fresh
def setM (w : Wd) (i : Nat) (m : Mach) : Wd := { w with all := w.all.set i m }
def setF (w : Wd) (i : Nat) (b : Bool) : Wd := { w with flag := w.flag.set i b }
def fl (w : Wd) (i : Nat) : Bool := w.flag.getD i false
def ring (w : Wd) (p : Nat) : Ring := w.rings.getD p Ring.new
def setR (w : Wd) (p : Nat) (r : Ring) : Wd := { w with rings := w.rings.set p r }
def spinW (w : Wd) : Nat := 2 * (w.P + 2)
def noteW (w : Wd) (i : Nat) : Nat := 2 * (w.P + 2) + 1 + i
def statW (w : Wd) (g : Nat) : Nat := 2 * (w.P + 2) + 1 + w.M + g
def ld (w : Wd) (a : Nat) : Nat := w.ws.getD a 0
def acc (w : Wd) : Wd := { w with cnt := wrap64 (w.cnt + 1) }
def st (w : Wd) (a x : Nat) : Wd := { w with ws := w.ws.set a x, cnt := wrap64 (w.cnt + 1) }
def swap (w : Wd) (a old new : Nat) : Wd := if w.ld a = old then w.st a new else w.acc
def more (w : Wd) (a : Nat) : Wd := w.st a ((w.ld a + 1) % 2 ^ 64)
def less (w : Wd) (a : Nat) : Wd := w.st a ((w.ld a + (2 ^ 64 - 1)) % 2 ^ 64)
def move (w : Wd) (g : Int) (a b : Nat) : Wd := if 0 ≤ g ∧ g < w.G then w.swap (w.statW g.toNat) a b else w
def moved (w : Wd) (g : Int) (a : Nat) : Bool := decide (0 ≤ g ∧ g < w.G) && w.ld (w.statW g.toNat) == a
def stat (w : Wd) (g : Int) : Nat := if 0 ≤ g ∧ g < w.G then w.ld (w.statW g.toNat) else 0
def add (w : Wd) (i : Nat) (k g value : Int) : Wd := { w with log := w.log ++ [{ kind := k, g := g, m := i, p := (w.mach i).p, value := value }] }
def found (w : Wd) (i : Nat) (l : List Int) : Wd :=
  match l with
  | [] => w.setF i false
  | g :: t => (w.setF i true).setM i { w.mach i with got := g, rest := t }
def one (w : Wd) (i : Nat) (g : Int) (is : Bool) : Wd := if is then w.found i [g] else w.found i []
def hold (w : Wd) (i : Nat) (p : Int) (is : Bool) : Wd :=
  if is then (w.setF i true).setM i { w.mach i with p := p } else w.setF i false
def share (w : Wd) : Nat := min (min (w.glob.length / w.P + 1) w.glob.length) 128
def takeShare (w : Wd) : Wd × List Int := ({ w with glob := w.glob.drop w.share }, w.glob.take w.share)
def find (w : Wd) (i : Nat) (times : Int) : Wd × Bool :=
  if times > 0 then (w.less w.spinW, false)
  else
    let (x, p, is) := w.idle.takeP
    if is then
      let (y, k, has) := x.takeM
      if has then
        let w := { w with idle := y }
        let w := w.setM k.toNat { w.mach k.toNat with next := p }
        (w.setM i { w.mach i with target := k }, false)
      else ({ w with idle := (y.pend p).1 }, false)
    else ({ w with idle := x }, true)
def out (w : Wd) (i : Nat) (times : Int) : Wd × Bool :=
  let m := w.mach i
  if m.place = 30 then
    if times = 0 then
      let (s, ok) := w.src.wait m.arg.toNat m.g
      (({ w with src := s }).setF i (ok && s.due), ok)
    else
      let w := (w.move m.g 2 5).add i 6 m.g m.arg
      (w.setM i { w.mach i with g := -1 }, false)
  else
    if times = 0 then
      let s := w.src.sleep m.g m.arg
      ((({ w with src := s }).setF i s.due).setM i { m with arg := sumT w.src.now (max 0 m.arg) }, true)
    else
      let w := (w.move m.g 2 4).add i 5 m.g m.arg
      (w.setM i { w.mach i with g := -1 }, false)
def doIt (w : Wd) (i : Nat) (times : Int) : Wd × Bool :=
  let m := w.mach i
  match m.place with
  | 2 => (({ w with glob := w.glob.tail }).one i (w.glob.headD 0) (!w.glob.isEmpty), false)
  | 3 => let (r, g, is) := (w.ring m.p.toNat).get
         ((w.setR m.p.toNat r).one i g is, false)
  | 4 => (w.takeShare.1.found i w.takeShare.2, false)
  | 6 => let v := ((m.p + m.i) % w.P).toNat
         let (r, l) := (w.ring v).steal
         ((w.setR v r).found i l, false)
  | 7 => let w' := w.takeShare.1.found i w.takeShare.2
         if w'.fl i then (w', false)
         else
          let w' := { w' with idle := (w'.idle.putP m.p).1 }
          (w'.setM i { w'.mach i with p := -1 }, false)
  | 9 => (w.setF i (decide (0 < (w.ring m.i.toNat).len)), false)
  | 10 => (w.setF i (decide (0 < w.glob.length)), false)
  | 11 => let (x, p, is) := w.idle.takeP
          (({ w with idle := x }).hold i p is, false)
  | 13 => let (x, p, is) := w.idle.takePending
          let w := ({ w with idle := x }).hold i p is
          let w := w.setM i { w.mach i with spin := is }
          if is then (w, false)
          else
            let (y, pol, _) := w.idle.stop i
            (({ w with idle := y }).setF i pol, false)
  | 15 => let (x, is) := w.idle.leave i
          (({ w with idle := x }).setF i is, false)
  | 18 => let w := { w with glob := w.glob ++ m.rest }
          (w.setM i { m with rest := [] }, false)
  | 27 => let w := { w with glob := w.glob ++ [m.got] }
          (w.setM i { m with got := -1 }, false)
  | 17 => let (r, l) := (w.ring m.p.toNat).putAll m.rest
          ((w.setR m.p.toNat r).setM i { m with rest := l }, false)
  | 28 => let (r, l) := (w.ring m.p.toNat).ready m.got
          ((w.setR m.p.toNat r).setM i { m with rest := l, got := -1 }, false)
  | 14 => (w.setF i w.src.due, false)
  | 25 => let (s, g, is) := w.src.take
          (({ w with src := s }).one i g is, false)
  | 23 => w.find i times
  | 29 => w.out i times
  | 30 => w.out i times
  | _ => (w, false)
def take (w : Wd) (i : Nat) : Wd :=
  let m := w.mach i
  w.setM i { m with back := 20, place := if m.rest ≠ [] then 17 else if m.spin then 19 else 20 }
def settle (w : Wd) (i : Nat) : Wd :=
  let m := w.mach i
  w.setM i { m with place := if m.rest ≠ [] then 18 else if m.spin then 19 else 21 }
def steal (w : Wd) (i : Nat) (from_ : Int) : Wd :=
  w.setM i { w.mach i with i := from_, place := if from_ ≥ w.P then 7 else 6 }
def deliver (w : Wd) (i : Nat) (after : Nat) : Wd := w.setM i { w.mach i with after := after, place := 25 }
def go (w : Wd) (i : Nat) (place : Nat) : Wd := w.setM i { w.mach i with place := place }
def searched (w : Wd) (i : Nat) (is : Bool) : Wd :=
  let m := w.mach i
  if is then w.take i
  else match m.place with
    | 2 => w.go i 3
    | 3 => w.go i 4
    | 7 => w.go i 8
    | 6 => w.steal i (m.i + 1)
    | _ => if m.spin then w.steal i 1 else w.go i 5
def andThen (w : Wd) (i : Nat) : Wd :=
  let m := w.mach i
  let is := w.fl i
  match m.place with
  | 2 => w.searched i is
  | 3 => w.searched i is
  | 4 => w.searched i is
  | 6 => w.searched i is
  | 7 => w.searched i is
  | 9 => w.setM i { m with i := m.i + 1, place := if is then 11 else if m.i + 1 < w.P then 9 else 10 }
  | 10 => w.go i (if is then 11 else 13)
  | 11 => w.go i (if is then 12 else 13)
  | 13 => w.go i (if m.spin then 4 else if is then 14 else 16)
  | 14 => w.go i (if is then 15 else 16)
  | 15 => if is then w.deliver i 13 else w.go i 16
  | 17 => w.settle i
  | 18 => w.settle i
  | 28 => (w.setM i { m with back := 0 }).settle i
  | 27 => w.go i 21
  | 23 => w.go i (if m.target ≥ 0 then 24 else m.back)
  | 25 => w.go i (if is then 26 else m.after)
  | 29 => if m.g ≥ 0 then w.go i 0 else if is then w.deliver i 1 else w.go i 1
  | 30 => if m.g ≥ 0 then w.go i 0 else if is then w.deliver i 1 else w.go i 1
  | _ => w
def begin_ (w : Wd) (i : Nat) (lock : Nat) : Wd :=
  if (w.mach i).inn then w
  else (w.setM i { w.mach i with inn := true, lkN := 2 * lock, lkS := 2 * lock + 1, stage := 0, ticket := 0, times := 0 }).setF i false
def locked (w : Wd) (i : Nat) (lock : Nat) : Wd :=
  let w := w.begin_ i lock
  let m := w.mach i
  match m.stage with
  | 0 => (w.more m.lkN.toNat).setM i { m with ticket := w.ld m.lkN.toNat, stage := 1 }
  | 1 => if w.ld m.lkS.toNat = m.ticket then w.acc.setM i { m with stage := 2 } else w.acc
  | 2 => let (v, more) := w.doIt i m.times
         v.setM i { v.mach i with times := wrap64 ((v.mach i).times + 1), stage := if more then 2 else 3 }
  | 3 => let w := w.acc.st m.lkS.toNat ((m.ticket + 1) % 2 ^ 64)
         (w.setM i { m with stage := 4, inn := false }).andThen i
  | _ => (w.setM i { m with inn := false }).andThen i
def lockOf (w : Wd) (m : Mach) : Option Nat :=
  let own (p : Int) : Option Nat := if 0 ≤ p ∧ p < w.P then some (p.toNat + 1) else none
  match m.place with
  | 2 | 4 | 7 | 10 | 11 | 13 | 15 | 18 | 23 | 27 => some 0
  | 14 | 25 | 29 | 30 => some (w.P + 1)
  | 3 | 17 | 28 => own m.p
  | 9 => own m.i
  | 6 => if 0 ≤ m.i ∧ 0 ≤ m.p ∧ m.p < w.P then some (((m.p + m.i % w.P) % w.P).toNat + 1) else none
  | _ => none
def bare (w : Wd) (i : Nat) : Wd :=
  let m := w.mach i
  match m.place with
  | 1 => let t := wrap64 (w.turns.getD m.p.toNat 0 + 1)
         let w := { w with turns := w.turns.set m.p.toNat t }
         if t.tmod 61 = 0 then w.deliver i 2 else w.go i 3
  | 5 => ((w.more w.spinW).setM i { m with spin := true }).steal i 1
  | 12 => (w.more w.spinW).setM i { m with spin := true, place := 4 }
  | 8 => (w.less w.spinW).setM i { m with spin := false, i := 0, place := 9 }
  | 19 => (w.less w.spinW).setM i { m with spin := false, place := 21 }
  | 20 => let w := (w.move m.got 1 2).add i 2 m.got 0
          w.setM i { m with g := m.got, got := -1, place := 0 }
  | 21 => w.acc.go i (if w.ld w.spinW = 0 then 22 else m.back)
  | 22 => (w.swap w.spinW 0 1).go i (if w.ld w.spinW = 0 then 23 else m.back)
  | 24 => (w.swap (w.noteW m.target.toNat) 0 1).setM i { m with target := -1, place := m.back }
  | 26 => let w := (w.st (w.statW m.got.toNat) 1).add i 1 m.got 0
          w.setM i { m with back := 25, place := 27 }
  | _ => w
def woken (w : Wd) (i : Nat) : Wd × Bool :=
  let m := w.mach i
  if w.ld (w.noteW i) = 1 then
    let w := w.swap (w.noteW i) 1 0
    if m.next < 0 then (w.deliver i 13, true)
    else (w.setM i { m with p := m.next, next := -1, spin := true, place := 4 }, true)
  else (w.acc, false)
def leave (w : Wd) (i : Nat) (to : Nat) (k : Int) : Wd :=
  let m := w.mach i
  let w := (w.move m.g 2 to).add i k m.g 0
  w.setM i { m with got := -1, g := -1, place := 1 }
def rouse (w : Wd) (i : Nat) (g : Int) (from_ : Nat) (k : Int) : Wd × Bool :=
  let m := w.mach i
  if w.moved g from_ then
    (((w.move g from_ 1).add i k g 0).setM i { m with got := g, place := 28 }, true)
  else (w.move g from_ 1, false)
end Wd
structure Stp where
  kind : Nat
  act : Nat
  a : Int
  x : Int
  d : Int
namespace Wd
def exec (w : Wd) (i : Nat) (s : Stp) : Wd × Bool :=
  let m := w.mach i
  match s.act with
  | 0 => (w, true)
  | 1 => let w := w.leave i 1 3
         (w.setM i { w.mach i with got := m.g, back := 1, place := 27 }, true)
  | 2 => (w.leave i 3 4, true)
  | 3 => (w.leave i 6 7, true)
  | 4 => w.rouse i s.x 0 0
  | 5 => w.rouse i s.x 3 1
  | 6 => (w.setM i { m with arg := s.d, place := 29 }, true)
  | 7 => if s.x < 0 ∨ s.x ≥ 65536 then (w, false) else (w.setM i { m with arg := s.x, place := 30 }, true)
  | _ => (w, false)
def pick (w : Wd) (s : Stp) : Wd × Bool :=
  if s.a < 0 ∨ s.a ≥ w.M then (w, false)
  else
    let i := s.a.toNat
    let m := w.mach i
    if m.place = 0 then w.exec i s
    else if m.place = 16 then w.woken i
    else match w.lockOf m with
      | some k => (w.locked i k, true)
      | none => (w.bare i, true)
def tell (w : Wd) (due : Bool) : Wd :=
  if w.idle.poller ≠ -1 ∧ due = true then
    let k := w.idle.poller
    ({ w with idle := (w.idle.leave k).1 }).swap (w.noteW k.toNat) 0 1
  else w
def step (w : Wd) (s : Stp) : Wd × Bool :=
  match s.kind with
  | 0 => w.pick s
  | 1 => let w := { w with src := w.src.tick s.d }
         (w.tell w.src.due, true)
  | 2 => if s.a < 0 ∨ s.a ≥ 65536 then (w, false)
         else
          let (x, ok) := w.src.ready s.a.toNat
          let w := { w with src := x }
          (w.tell (ok && x.due), ok)
  | _ => (w, false)
def run (w : Wd) (l : List Stp) : Wd × Nat :=
  l.foldl (fun (x, n) s => let (y, b) := x.step s; (y, if b then n + 1 else n)) (w, 0)
def new (P M G : Nat) : Wd :=
  { P := P, M := M, G := G, ws := (List.replicate (2 * (P + 2) + 1 + M + G) 0).set (2 * (P + 2) + 1 + M) 1, cnt := 1,
    rings := List.replicate P Ring.new, turns := List.replicate P 0, glob := [0], src := Src.new,
    idle := { p := 2 ^ P - 2, pending := [], m := (List.range (M - 2)).map fun k => ((k + 2 : Nat) : Int), poller := if M ≤ 1 then -1 else 1 },
    all := (List.replicate M Mach.fresh).set 0 { Mach.fresh with place := 1, p := 0 }, flag := List.replicate M false,
    log := [{ kind := 0, g := 0, m := -1, p := -1, value := 0 }] }
end Wd
end Hst
