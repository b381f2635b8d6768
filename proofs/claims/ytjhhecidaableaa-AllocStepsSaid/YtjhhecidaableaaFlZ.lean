/- The program's types as Lean has them, printed by a program of this session's own. Conditions: none. -/
namespace Go.Fl
structure GPlan where
  Threads : Int
  Blocks : Int
  Table : Int
  Heap : Int
  Size : Int
  deriving DecidableEq, Inhabited
structure GPhase where
  No : Int
  Mode : Int
  Mark : Int
  List : Int
  deriving DecidableEq, Inhabited
structure GHead where
  State : Int
  Class : Int
  Count : Int
  Mark : Int
  Grey : Int
  Tag : Int
  Link : Int
  deriving DecidableEq, Inhabited
structure GTop where
  At : Int
  Ver : Int
  deriving DecidableEq, Inhabited
structure GBlock where
  State : Int
  Class : Int
  Stamp : Int
  Next : Int
  deriving DecidableEq, Inhabited
structure GVal where
  Kind : Int
  N : Int
  deriving DecidableEq, Inhabited
structure Arr8 where
  e0 : Int
  e1 : Int
  e2 : Int
  e3 : Int
  e4 : Int
  e5 : Int
  e6 : Int
  e7 : Int
  deriving DecidableEq, Inhabited
structure GRoots where
  N : Int
  L : Arr8
  deriving DecidableEq, Inhabited
structure GMachine where
  next : Int
  deriving DecidableEq, Inhabited
structure GWord where
  w : Int
  n : Int
  deriving DecidableEq, Inhabited
structure GPart where
  n : Int
  bits : Int
  deriving DecidableEq, Inhabited
structure Arr2 where
  e0 : Int
  e1 : Int
  deriving DecidableEq, Inhabited
structure Arr3 where
  e0 : Int
  e1 : Int
  e2 : Int
  deriving DecidableEq, Inhabited
structure Arr4 where
  e0 : Int
  e1 : Int
  e2 : Int
  e3 : Int
  deriving DecidableEq, Inhabited
structure Arr7 where
  e0 : Int
  e1 : Int
  e2 : Int
  e3 : Int
  e4 : Int
  e5 : Int
  e6 : Int
  deriving DecidableEq, Inhabited
structure GMem where
  words : List Int
  count : Int
  traps : Int
  trace : Int
  deriving DecidableEq, Inhabited
structure RMem where
  W : List Int
  Counted : Int
  Bad : Int
  L : Int
  deriving DecidableEq, Inhabited
structure GPop where
  next : Int
  head : Int
  w : Int
  h : Int
  found : Int
  seen : Int
  deriving DecidableEq, Inhabited
structure GPush where
  next : Int
  head : Int
  first : Int
  last : Int
  class_ : Int
  w : Int
  deriving DecidableEq, Inhabited
structure GTake where
  machine : GMachine
  p : GPlan
  class_ : Int
  set_ : Int
  w : Int
  block : Int
  entry : Int
  k : Int
  push : Option GPush
  cell : Int
  deriving DecidableEq, Inhabited
structure GGive where
  machine : GMachine
  p : GPlan
  block : Int
  w : Int
  deriving DecidableEq, Inhabited
structure GReserve where
  p : GPlan
  class_ : Int
  set_ : Int
  phase : Int
  pop : GPop
  take : Option GTake
  seen : Int
  cell : Int
  deriving DecidableEq, Inhabited
structure GAlloc where
  head : GHead
  phase : Int
  reserve : GReserve
  k : Int
  cell : Int
  deriving DecidableEq, Inhabited
structure R8Pop where
  Head : Int
  Pc : Int
  W : Int
  H : Int
  At : Int
  Seen : Int
  deriving DecidableEq, Inhabited
structure R8Push where
  Head : Int
  First : Int
  Last : Int
  Class : Int
  Pc : Int
  W : Int
  deriving DecidableEq, Inhabited
structure R9Take where
  P : GPlan
  Class : Int
  Set : Int
  Pc : Int
  K : Int
  W : Int
  B : Int
  X : Option R8Push
  At : Int
  deriving DecidableEq, Inhabited
structure R9Give where
  P : GPlan
  Block : Int
  Pc : Int
  W : Int
  deriving DecidableEq, Inhabited
structure R10Reserve where
  P : GPlan
  Class : Int
  Set : Int
  Pc : Int
  X : R8Pop
  Y : Option R9Take
  At : Int
  deriving DecidableEq, Inhabited
structure R10Alloc where
  P : GPlan
  Count : Int
  Mark : Int
  Pc : Int
  K : Int
  X : R10Reserve
  At : Int
  deriving DecidableEq, Inhabited
structure R11Shade where
  At : Int
  Mark : Int
  Pc : Int
  H : GHead
  W : Int
  deriving DecidableEq, Inhabited
structure R16Poll where
  P : GPlan
  Thread : Int
  Pc : Int
  K : Int
  Own : GPhase
  Q : GPhase
  Alpha : Int
  R : GRoots
  X : Option R11Shade
  deriving DecidableEq, Inhabited
structure R16Ask where
  P : GPlan
  Q : GPhase
  Pc : Int
  K : Int
  deriving DecidableEq, Inhabited
structure GShade where
  at_ : Int
  mark : Int
  pc : Int
  w : Int
  h : GHead
  deriving DecidableEq, Inhabited
structure GNext where
  pc : Int
  w : Int
  h : GHead
  at_ : Int
  count : Int
  deriving DecidableEq, Inhabited
structure GPoll where
  p : GPlan
  thread : Int
  own : GPhase
  asked : GPhase
  alpha : Int
  r : GRoots
  pc : Int
  root : Int
  shade : Option GShade
  deriving DecidableEq, Inhabited
structure GAsk where
  p : GPlan
  ask : GPhase
  told : Bool
  thread : Int
  deriving DecidableEq, Inhabited
structure GTrace where
  p : GPlan
  asked : GPhase
  pc : Int
  next : GNext
  shade : Option GShade
  ask : Option GAsk
  at_ : Int
  left : Int
  deriving DecidableEq, Inhabited
@[reducible] def T : Nat → Type
  | 0 => GMem
  | 1 => RMem
  | 2 => GPop
  | 3 => GPush
  | 4 => GTake
  | 5 => GGive
  | 6 => GReserve
  | 7 => GAlloc
  | 8 => R8Pop
  | 9 => R8Push
  | 10 => R9Take
  | 11 => R9Give
  | 12 => R10Reserve
  | 13 => R10Alloc
  | 14 => R11Shade
  | 15 => R16Poll
  | 16 => R16Ask
  | 17 => GShade
  | 18 => GNext
  | 19 => GPoll
  | 20 => GAsk
  | 21 => GTrace
  | _ => Unit
def dflt : (t : Nat) → T t
  | 0 => (default : GMem)
  | 1 => (default : RMem)
  | 2 => (default : GPop)
  | 3 => (default : GPush)
  | 4 => (default : GTake)
  | 5 => (default : GGive)
  | 6 => (default : GReserve)
  | 7 => (default : GAlloc)
  | 8 => (default : R8Pop)
  | 9 => (default : R8Push)
  | 10 => (default : R9Take)
  | 11 => (default : R9Give)
  | 12 => (default : R10Reserve)
  | 13 => (default : R10Alloc)
  | 14 => (default : R11Shade)
  | 15 => (default : R16Poll)
  | 16 => (default : R16Ask)
  | 17 => (default : GShade)
  | 18 => (default : GNext)
  | 19 => (default : GPoll)
  | 20 => (default : GAsk)
  | 21 => (default : GTrace)
  | _ + 22 => ()
end Go.Fl
