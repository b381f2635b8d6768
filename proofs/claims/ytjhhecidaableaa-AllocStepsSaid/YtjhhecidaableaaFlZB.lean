/- The program's objects: their leaves, and their patterns, printed by a program of this session's own. Conditions: none. -/
import Derived.Test.YtjhhecidaableaaFlW
set_option linter.unusedVariables false
set_option linter.unusedSectionVars false
namespace Go.Fl
open Go Go.RowKit
abbrev pI64 : AV LU := .int .i64 (.lf ())
abbrev pU64 : AV LU := .int .u64 (.lf ())
abbrev pB : AV LU := .bool (.lf ())
def toL : (t : Nat) → T t → Ls
  | 0, x => [.I x.count, .I x.traps, .A x.words, .I x.trace]
  | 1, x => [.I x.Counted, .I x.Bad, .A x.W, .I x.L]
  | 2, x => [.I x.next, .I x.head, .I x.w, .I x.h, .I x.found, .I x.seen]
  | 3, x => [.I x.next, .I x.head, .I x.first, .I x.last, .I x.class_, .I x.w]
  | 4, x => [.I x.machine.next, .I x.p.Threads, .I x.p.Blocks, .I x.p.Table, .I x.p.Heap, .I x.p.Size, .I x.class_, .I x.set_, .I x.w, .I x.block, .I x.entry, .I x.k, .I x.cell, .P 3 x.push]
  | 5, x => [.I x.machine.next, .I x.p.Threads, .I x.p.Blocks, .I x.p.Table, .I x.p.Heap, .I x.p.Size, .I x.block, .I x.w]
  | 6, x => [.I x.p.Threads, .I x.p.Blocks, .I x.p.Table, .I x.p.Heap, .I x.p.Size, .I x.class_, .I x.set_, .I x.phase, .I x.seen, .I x.cell, .O 2 x.pop, .P 4 x.take]
  | 7, x => [.I x.head.State, .I x.head.Class, .I x.head.Count, .I x.head.Mark, .I x.head.Grey, .I x.head.Tag, .I x.head.Link, .I x.phase, .I x.k, .I x.cell, .O 6 x.reserve]
  | 8, x => [.I x.Head, .I x.Pc, .I x.W, .I x.H, .I x.At, .I x.Seen]
  | 9, x => [.I x.Head, .I x.First, .I x.Last, .I x.Class, .I x.Pc, .I x.W]
  | 10, x => [.I x.P.Threads, .I x.P.Blocks, .I x.P.Table, .I x.P.Heap, .I x.P.Size, .I x.Class, .I x.Set, .I x.Pc, .I x.K, .I x.W, .I x.B, .I x.At, .P 9 x.X]
  | 11, x => [.I x.P.Threads, .I x.P.Blocks, .I x.P.Table, .I x.P.Heap, .I x.P.Size, .I x.Block, .I x.Pc, .I x.W]
  | 12, x => [.I x.P.Threads, .I x.P.Blocks, .I x.P.Table, .I x.P.Heap, .I x.P.Size, .I x.Class, .I x.Set, .I x.Pc, .I x.At, .O 8 x.X, .P 10 x.Y]
  | 13, x => [.I x.P.Threads, .I x.P.Blocks, .I x.P.Table, .I x.P.Heap, .I x.P.Size, .I x.Count, .I x.Mark, .I x.Pc, .I x.K, .I x.At, .O 12 x.X]
  | 14, x => [.I x.At, .I x.Mark, .I x.Pc, .I x.H.State, .I x.H.Class, .I x.H.Count, .I x.H.Mark, .I x.H.Grey, .I x.H.Tag, .I x.H.Link, .I x.W]
  | 15, x => [.I x.P.Threads, .I x.P.Blocks, .I x.P.Table, .I x.P.Heap, .I x.P.Size, .I x.Thread, .I x.Pc, .I x.K, .I x.Own.No, .I x.Own.Mode, .I x.Own.Mark, .I x.Own.List, .I x.Q.No, .I x.Q.Mode, .I x.Q.Mark, .I x.Q.List, .I x.Alpha, .I x.R.N, .I x.R.L.e0, .I x.R.L.e1, .I x.R.L.e2, .I x.R.L.e3, .I x.R.L.e4, .I x.R.L.e5, .I x.R.L.e6, .I x.R.L.e7, .P 14 x.X]
  | 16, x => [.I x.P.Threads, .I x.P.Blocks, .I x.P.Table, .I x.P.Heap, .I x.P.Size, .I x.Q.No, .I x.Q.Mode, .I x.Q.Mark, .I x.Q.List, .I x.Pc, .I x.K]
  | 17, x => [.I x.at_, .I x.mark, .I x.pc, .I x.w, .I x.h.State, .I x.h.Class, .I x.h.Count, .I x.h.Mark, .I x.h.Grey, .I x.h.Tag, .I x.h.Link]
  | 18, x => [.I x.pc, .I x.w, .I x.h.State, .I x.h.Class, .I x.h.Count, .I x.h.Mark, .I x.h.Grey, .I x.h.Tag, .I x.h.Link, .I x.at_, .I x.count]
  | 19, x => [.I x.p.Threads, .I x.p.Blocks, .I x.p.Table, .I x.p.Heap, .I x.p.Size, .I x.thread, .I x.own.No, .I x.own.Mode, .I x.own.Mark, .I x.own.List, .I x.asked.No, .I x.asked.Mode, .I x.asked.Mark, .I x.asked.List, .I x.alpha, .I x.r.N, .I x.r.L.e0, .I x.r.L.e1, .I x.r.L.e2, .I x.r.L.e3, .I x.r.L.e4, .I x.r.L.e5, .I x.r.L.e6, .I x.r.L.e7, .I x.pc, .I x.root, .P 17 x.shade]
  | 20, x => [.I x.p.Threads, .I x.p.Blocks, .I x.p.Table, .I x.p.Heap, .I x.p.Size, .I x.ask.No, .I x.ask.Mode, .I x.ask.Mark, .I x.ask.List, .B x.told, .I x.thread]
  | 21, x => [.I x.p.Threads, .I x.p.Blocks, .I x.p.Table, .I x.p.Heap, .I x.p.Size, .I x.asked.No, .I x.asked.Mode, .I x.asked.Mark, .I x.asked.List, .I x.pc, .I x.at_, .I x.left, .O 18 x.next, .P 17 x.shade, .P 20 x.ask]
  | _ + 22, _ => []
def ofL : (t : Nat) → Ls → T t
  | 0, ls => (⟨lA ls 2, lI ls 0, lI ls 1, lI ls 3⟩ : GMem)
  | 1, ls => (⟨lA ls 2, lI ls 0, lI ls 1, lI ls 3⟩ : RMem)
  | 2, ls => (⟨lI ls 0, lI ls 1, lI ls 2, lI ls 3, lI ls 4, lI ls 5⟩ : GPop)
  | 3, ls => (⟨lI ls 0, lI ls 1, lI ls 2, lI ls 3, lI ls 4, lI ls 5⟩ : GPush)
  | 4, ls => (⟨⟨lI ls 0⟩, ⟨lI ls 1, lI ls 2, lI ls 3, lI ls 4, lI ls 5⟩, lI ls 6, lI ls 7, lI ls 8, lI ls 9, lI ls 10, lI ls 11, lP ls 13 3, lI ls 12⟩ : GTake)
  | 5, ls => (⟨⟨lI ls 0⟩, ⟨lI ls 1, lI ls 2, lI ls 3, lI ls 4, lI ls 5⟩, lI ls 6, lI ls 7⟩ : GGive)
  | 6, ls => (⟨⟨lI ls 0, lI ls 1, lI ls 2, lI ls 3, lI ls 4⟩, lI ls 5, lI ls 6, lI ls 7, lO ls 10 2, lP ls 11 4, lI ls 8, lI ls 9⟩ : GReserve)
  | 7, ls => (⟨⟨lI ls 0, lI ls 1, lI ls 2, lI ls 3, lI ls 4, lI ls 5, lI ls 6⟩, lI ls 7, lO ls 10 6, lI ls 8, lI ls 9⟩ : GAlloc)
  | 8, ls => (⟨lI ls 0, lI ls 1, lI ls 2, lI ls 3, lI ls 4, lI ls 5⟩ : R8Pop)
  | 9, ls => (⟨lI ls 0, lI ls 1, lI ls 2, lI ls 3, lI ls 4, lI ls 5⟩ : R8Push)
  | 10, ls => (⟨⟨lI ls 0, lI ls 1, lI ls 2, lI ls 3, lI ls 4⟩, lI ls 5, lI ls 6, lI ls 7, lI ls 8, lI ls 9, lI ls 10, lP ls 12 9, lI ls 11⟩ : R9Take)
  | 11, ls => (⟨⟨lI ls 0, lI ls 1, lI ls 2, lI ls 3, lI ls 4⟩, lI ls 5, lI ls 6, lI ls 7⟩ : R9Give)
  | 12, ls => (⟨⟨lI ls 0, lI ls 1, lI ls 2, lI ls 3, lI ls 4⟩, lI ls 5, lI ls 6, lI ls 7, lO ls 9 8, lP ls 10 10, lI ls 8⟩ : R10Reserve)
  | 13, ls => (⟨⟨lI ls 0, lI ls 1, lI ls 2, lI ls 3, lI ls 4⟩, lI ls 5, lI ls 6, lI ls 7, lI ls 8, lO ls 10 12, lI ls 9⟩ : R10Alloc)
  | 14, ls => (⟨lI ls 0, lI ls 1, lI ls 2, ⟨lI ls 3, lI ls 4, lI ls 5, lI ls 6, lI ls 7, lI ls 8, lI ls 9⟩, lI ls 10⟩ : R11Shade)
  | 15, ls => (⟨⟨lI ls 0, lI ls 1, lI ls 2, lI ls 3, lI ls 4⟩, lI ls 5, lI ls 6, lI ls 7, ⟨lI ls 8, lI ls 9, lI ls 10, lI ls 11⟩, ⟨lI ls 12, lI ls 13, lI ls 14, lI ls 15⟩, lI ls 16, ⟨lI ls 17, ⟨lI ls 18, lI ls 19, lI ls 20, lI ls 21, lI ls 22, lI ls 23, lI ls 24, lI ls 25⟩⟩, lP ls 26 14⟩ : R16Poll)
  | 16, ls => (⟨⟨lI ls 0, lI ls 1, lI ls 2, lI ls 3, lI ls 4⟩, ⟨lI ls 5, lI ls 6, lI ls 7, lI ls 8⟩, lI ls 9, lI ls 10⟩ : R16Ask)
  | 17, ls => (⟨lI ls 0, lI ls 1, lI ls 2, lI ls 3, ⟨lI ls 4, lI ls 5, lI ls 6, lI ls 7, lI ls 8, lI ls 9, lI ls 10⟩⟩ : GShade)
  | 18, ls => (⟨lI ls 0, lI ls 1, ⟨lI ls 2, lI ls 3, lI ls 4, lI ls 5, lI ls 6, lI ls 7, lI ls 8⟩, lI ls 9, lI ls 10⟩ : GNext)
  | 19, ls => (⟨⟨lI ls 0, lI ls 1, lI ls 2, lI ls 3, lI ls 4⟩, lI ls 5, ⟨lI ls 6, lI ls 7, lI ls 8, lI ls 9⟩, ⟨lI ls 10, lI ls 11, lI ls 12, lI ls 13⟩, lI ls 14, ⟨lI ls 15, ⟨lI ls 16, lI ls 17, lI ls 18, lI ls 19, lI ls 20, lI ls 21, lI ls 22, lI ls 23⟩⟩, lI ls 24, lI ls 25, lP ls 26 17⟩ : GPoll)
  | 20, ls => (⟨⟨lI ls 0, lI ls 1, lI ls 2, lI ls 3, lI ls 4⟩, ⟨lI ls 5, lI ls 6, lI ls 7, lI ls 8⟩, lB ls 9, lI ls 10⟩ : GAsk)
  | 21, ls => (⟨⟨lI ls 0, lI ls 1, lI ls 2, lI ls 3, lI ls 4⟩, ⟨lI ls 5, lI ls 6, lI ls 7, lI ls 8⟩, lI ls 9, lO ls 12 18, lP ls 13 17, lP ls 14 20, lI ls 10, lI ls 11⟩ : GTrace)
  | _ + 22, _ => ()
def tplT : Nat → List (ABlock LU)
  | 0 => [.cells 178 [.sl 1, pI64, pI64, .sl 2], .lst 59 .u64 (.lf ()), .olst 220 3 (.lf ())]
  | 1 => [.cells 63 [.sl 1, pI64, pI64, .sl 2], .lst 59 .u64 (.lf ()), .olst 220 3 (.lf ())]
  | 2 => [.cells 183 [.fsel (.lf ()) [none, some (111, none), some (156, none), some (183, none)], pI64, pU64, pU64, pI64, pU64]]
  | 3 => [.cells 212 [.fsel (.lf ()) [none, some (140, none), some (175, none), some (188, none)], pI64, pI64, pI64, pI64, pU64]]
  | 4 => [.cells 82 [.fsel (.lf ()) [none, some (110, some 0), some (155, some 0), some (182, some 0), some (189, some 0), some (190, some 0), some (193, some 0)], pI64, pI64, pI64, pI64, pI64, pI64, pI64, pU64, pI64, pU64, pI64, .opt 1, pI64], .obj (3, true)]
  | 5 => [.cells 116 [.fsel (.lf ()) [none, some (119, some 0), some (162, some 0), some (185, some 0)], pI64, pI64, pI64, pI64, pI64, pI64, pU64]]
  | 6 => [.cells 252 [pI64, pI64, pI64, pI64, pI64, pI64, pI64, pI64, .ptr 1 0 (.lit 0) 0, .opt 2, pU64, pI64], .obj (2, false), .obj (4, true)]
  | 7 => [.cells 215 [pI64, pI64, pI64, pI64, pI64, pI64, pI64, pI64, .ptr 1 0 (.lit 0) 0, pI64, pI64], .obj (6, false)]
  | 8 => [.cells 265 [pI64, pI64, pU64, pU64, pI64, pU64]]
  | 9 => [.cells 262 [pI64, pI64, pI64, pI64, pI64, pU64]]
  | 10 => [.cells 191 [pI64, pI64, pI64, pI64, pI64, pI64, pI64, pI64, pI64, pU64, pU64, .opt 1, pI64], .obj (9, true)]
  | 11 => [.cells 240 [pI64, pI64, pI64, pI64, pI64, pI64, pI64, pU64]]
  | 12 => [.cells 245 [pI64, pI64, pI64, pI64, pI64, pI64, pI64, pI64, .ptr 1 0 (.lit 0) 0, .opt 2, pI64], .obj (8, false), .obj (10, true)]
  | 13 => [.cells 196 [pI64, pI64, pI64, pI64, pI64, pI64, pI64, pI64, pI64, .ptr 1 0 (.lit 0) 0, pI64], .obj (12, false)]
  | 14 => [.cells 238 [pI64, pI64, pI64, pI64, pI64, pI64, pI64, pI64, pI64, pI64, pU64]]
  | 15 => [.cells 109 [pI64, pI64, pI64, pI64, pI64, pI64, pI64, pI64, pI64, pI64, pI64, pI64, pI64, pI64, pI64, pI64, pI64, pI64, pI64, pI64, pI64, pI64, pI64, pI64, pI64, pI64, .opt 1], .obj (14, true)]
  | 16 => [.cells 185 [pI64, pI64, pI64, pI64, pI64, pI64, pI64, pI64, pI64, pI64, pI64]]
  | 17 => [.cells 199 [pI64, pI64, pI64, pU64, pI64, pI64, pI64, pI64, pI64, pI64, pI64]]
  | 18 => [.cells 250 [pI64, pU64, pI64, pI64, pI64, pI64, pI64, pI64, pI64, pI64, pI64]]
  | 19 => [.cells 170 [pI64, pI64, pI64, pI64, pI64, pI64, pI64, pI64, pI64, pI64, pI64, pI64, pI64, pI64, pI64, pI64, pI64, pI64, pI64, pI64, pI64, pI64, pI64, pI64, pI64, pI64, .opt 1], .obj (17, true)]
  | 20 => [.cells 168 [pI64, pI64, pI64, pI64, pI64, pI64, pI64, pI64, pI64, pB, pI64]]
  | 21 => [.cells 205 [pI64, pI64, pI64, pI64, pI64, pI64, pI64, pI64, pI64, pI64, .ptr 1 0 (.lit 0) 0, .opt 2, .opt 3, pI64, pI64], .obj (18, false), .obj (17, true), .obj (20, true)]
  | _ => []
end Go.Fl
