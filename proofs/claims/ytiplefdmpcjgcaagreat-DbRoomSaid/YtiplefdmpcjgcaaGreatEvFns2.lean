/- The functions' texts, as the evaluator takes them (printed by a program). -/
import Derived.Test.YtiplefdmpcjgcaaGreatEvDefs
namespace Go.Ev.S
open Go Go.Ev

/-! 147: slices.medianOrdered[stolon/api.Addr] -/
def f147r0 : List I := [⟨(some 10), none, [], false, .mv (.c (.int .i64 0))⟩]
def f147r1 : List I := [⟨(some 12), none, [], false, .mv (.t 0)⟩,
  ⟨(some 13), none, [], false, .mv (.t 1)⟩,
  ⟨(some 14), none, [], false, .mv (.t 2)⟩,
  ⟨(some 15), none, [], false, .mv (.t 4)⟩,
  ⟨(some 16), none, [], false, .call 148 [(.t 12), (.t 13), (.t 14), (.t 15)]⟩,
  ⟨(some 11), none, [], false, .mv (.t 16)⟩,
  ⟨(some 17), none, [], false, .ext 0 (.t 11)⟩,
  ⟨(some 18), none, [], false, .ext 1 (.t 11)⟩,
  ⟨(some 1), none, [], false, .mv (.t 17)⟩,
  ⟨(some 2), none, [], false, .mv (.t 18)⟩]
def f147r2 : List I := [⟨(some 20), none, [], false, .mv (.t 0)⟩,
  ⟨(some 21), none, [], false, .mv (.t 2)⟩,
  ⟨(some 22), none, [], false, .mv (.t 3)⟩,
  ⟨(some 23), none, [], false, .mv (.t 4)⟩,
  ⟨(some 24), none, [], false, .call 148 [(.t 20), (.t 21), (.t 22), (.t 23)]⟩,
  ⟨(some 19), none, [], false, .mv (.t 24)⟩,
  ⟨(some 25), none, [], false, .ext 0 (.t 19)⟩,
  ⟨(some 26), none, [], false, .ext 1 (.t 19)⟩,
  ⟨(some 2), none, [], false, .mv (.t 25)⟩,
  ⟨(some 3), none, [], false, .mv (.t 26)⟩]
def f147r3 : List I := [⟨(some 28), none, [], false, .mv (.t 0)⟩,
  ⟨(some 29), none, [], false, .mv (.t 1)⟩,
  ⟨(some 30), none, [], false, .mv (.t 2)⟩,
  ⟨(some 31), none, [], false, .mv (.t 4)⟩,
  ⟨(some 32), none, [], false, .call 148 [(.t 28), (.t 29), (.t 30), (.t 31)]⟩,
  ⟨(some 27), none, [], false, .mv (.t 32)⟩,
  ⟨(some 33), none, [], false, .ext 0 (.t 27)⟩,
  ⟨(some 34), none, [], false, .ext 1 (.t 27)⟩,
  ⟨(some 1), none, [], false, .mv (.t 33)⟩,
  ⟨(some 2), none, [], false, .mv (.t 34)⟩]
def f147r4 : List I := [⟨(some 35), none, [], false, .mv (.t 2)⟩,
  ⟨(some 10), none, [], false, .mv (.t 35)⟩]
def f147 : Fn := ⟨[0, 1, 2, 3, 4, 10], (.seq (.reg false f147r0) (.seq (.reg false f147r1) (.seq (.reg false f147r2) (.seq (.reg false f147r3) (.seq (.reg false f147r4) .ret))))), [.tmp 10]⟩
/-! 148: slices.order2Ordered[stolon/api.Addr] -/
def f148r0 : List I := [⟨(some 8), none, [], false, .mv (.c (.int .i64 0))⟩,
  ⟨(some 9), none, [], false, .mv (.c (.int .i64 0))⟩]
def f148r1 : List I := [⟨(some 10), none, [], false, .mv (.t 0)⟩,
  ⟨(some 11), none, [], false, .mv (.t 2)⟩,
  ⟨(some 12), none, [], false, .iad 1 none (.t 10) (.t 11)⟩,
  ⟨(some 13), none, [], false, .ld false 1 (.t 12)⟩,
  ⟨(some 14), none, [], false, .mv (.t 0)⟩,
  ⟨(some 15), none, [], false, .mv (.t 1)⟩,
  ⟨(some 16), none, [], false, .iad 1 none (.t 14) (.t 15)⟩,
  ⟨(some 17), none, [], false, .ld false 1 (.t 16)⟩,
  ⟨(some 18), none, [], false, .call 129 [(.t 13), (.t 17)]⟩]
def f148r2 : List I := [⟨(some 19), none, [], false, .mv (.t 3)⟩,
  ⟨(some 20), none, [], false, .nck (.t 19)⟩,
  ⟨(some 21), none, [], false, .ld false 1 (.t 20)⟩,
  ⟨(some 22), none, [], false, .bin .add .other (.t 21) (.c (.int .i64 1))⟩,
  ⟨(some 23), none, [], false, .nck (.t 19)⟩,
  ⟨none, none, [], false, .st 1 (.t 23) (.t 22)⟩]
def f148r3 : List I := [⟨(some 24), none, [], false, .mv (.t 2)⟩,
  ⟨(some 25), none, [], false, .mv (.t 1)⟩,
  ⟨(some 8), none, [], false, .mv (.t 24)⟩,
  ⟨(some 9), none, [], false, .mv (.t 25)⟩]
def f148r4 : List I := [⟨(some 26), none, [], false, .mv (.t 1)⟩,
  ⟨(some 27), none, [], false, .mv (.t 2)⟩,
  ⟨(some 8), none, [], false, .mv (.t 26)⟩,
  ⟨(some 9), none, [], false, .mv (.t 27)⟩]
def f148 : Fn := ⟨[0, 1, 2, 3, 8, 9, 18], (.seq (.reg false f148r0) (.seq (.seq (.reg true f148r1) (.cond (.t 18) (.seq (.reg false f148r2) (.seq (.reg false f148r3) .ret)) .skip)) (.seq (.reg false f148r4) .ret))), [.tmp 8, .tmp 9]⟩

end Go.Ev.S
