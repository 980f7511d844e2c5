/- What a database is, as data; and as the evaluator has it. -/
import Derived.Test.YtiplefdmpcjgcaaGreatEvWp
import Derived.IntWalk
namespace Go.Ev.S
open Go Go.Ev

structure Hd where
  a : Int
  left : Int
  deriving DecidableEq

structure Mb where
  g : Int
  ex : Bool
  left : Int
  m : SM
  srcs : List Hd

structure Pl where
  port : Int
  v1 : Int
  v2 : Int
  mb : Mb

structure Dbs where
  keep : Int
  last : Int
  limit : Int
  m : SM
  l : List Pl

def Hd.av (h : Hd) : List AV := [.int .u32 h.a, .int .i64 h.left]
def Mb.av (m : Mb) : List AV := [.int .u32 m.g, .bool m.ex, .int .i64 m.left, .sl m.m (m.srcs.map Hd.av)]
def Pl.av (p : Pl) : List AV := [.int .i64 p.port, .int .i64 p.v1, .int .i64 p.v2, .int .u32 p.mb.g, .bool p.mb.ex, .int .i64 p.mb.left, .sl p.mb.m (p.mb.srcs.map Hd.av)]
def Dbs.av (d : Dbs) : List AV := [.int .i64 d.keep, .int .i64 d.last, .int .i64 d.limit, .sl d.m (d.l.map Pl.av)]

def isI (n : Int) : Prop := -9223372036854775808 ≤ n ∧ n ≤ 9223372036854775807
def isU (n : Int) : Prop := 0 ≤ n ∧ n ≤ 4294967295

structure Hd.wf (h : Hd) : Prop where
  a : isU h.a
  left : isI h.left

structure Mb.wf (m : Mb) : Prop where
  g : isU m.g
  left : isI m.left
  len : m.srcs.length ≤ 140737488355328
  srcs : ∀ h ∈ m.srcs, h.wf

structure Hd.ok (h : Hd) : Prop where
  left : 0 ≤ h.left ∧ h.left ≤ 1000000

structure Mb.ok (m : Mb) : Prop where
  left : 0 ≤ m.left ∧ m.left ≤ 1000000
  len : m.srcs.length ≤ 64
  srcs : ∀ h ∈ m.srcs, h.ok

structure Pl.wf (p : Pl) : Prop where
  port : isI p.port
  v1 : isI p.v1
  v2 : isI p.v2
  mb : p.mb.wf

structure Dbs.wf (d : Dbs) : Prop where
  keep : isI d.keep
  last : isI d.last
  limit : isI d.limit
  len : d.l.length ≤ 140737488355328
  l : ∀ p ∈ d.l, p.wf

theorem wrap_i {n : Int} (h1 : -9223372036854775808 ≤ n) (h2 : n ≤ 9223372036854775807) : IntKind.i64.wrap n = n := IntWalk.i64_in n ⟨h1, h2⟩
theorem wrap_u {n : Int} (h1 : 0 ≤ n) (h2 : n ≤ 4294967295) : IntKind.u32.wrap n = n := IntWalk.u32_in n ⟨h1, h2⟩

end Go.Ev.S
