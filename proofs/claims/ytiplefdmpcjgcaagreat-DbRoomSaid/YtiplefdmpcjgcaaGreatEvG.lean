/- The program, as the evaluator takes it. -/
import Derived.Test.YtiplefdmpcjgcaaGreatEvFnsC
import Derived.Test.YtiplefdmpcjgcaaGreatEvAtom
import Derived.Test.YtiplefdmpcjgcaaGreatEvInsW
import Derived.Test.YtiplefdmpcjgcaaGreatEvInsV
namespace Go.Ev.S
open Go Go.Ev Go.Proofs

def fnT : Nat → Option Fn
  | 3 => some f3
  | 4 => some f4
  | 5 => some f5
  | 6 => some f6
  | 7 => some f7
  | 8 => some f8
  | 9 => some f9
  | 10 => some f10
  | 11 => some f11
  | 12 => some f12
  | 13 => some f13
  | 14 => some f14
  | 15 => some f15
  | 16 => some f16
  | 17 => some f17
  | 18 => some f18
  | 19 => some f19
  | 20 => some f20
  | 21 => some f21
  | 22 => some f22
  | 23 => some f23
  | 24 => some f24
  | 25 => some f25
  | 26 => some f26
  | 27 => some f27
  | 28 => some f28
  | 29 => some f29
  | 30 => some f30
  | 31 => some f31
  | 32 => some f32
  | 33 => some f33
  | 34 => some f34
  | 35 => some f35
  | 36 => some f36
  | 37 => some f37
  | 38 => some f38
  | 39 => some f39
  | 40 => some f40
  | 41 => some f41
  | 42 => some f42
  | 43 => some f43
  | 44 => some f44
  | 45 => some f45
  | 46 => some f46
  | 48 => some f48
  | 49 => some f49
  | 50 => some f50
  | 51 => some f51
  | 52 => some f52
  | 53 => some f53
  | 54 => some f54
  | 55 => some f55
  | 56 => some f56
  | 57 => some f57
  | 58 => some f58
  | 59 => some f59
  | 61 => some f61
  | 62 => some f62
  | 63 => some f63
  | 64 => some f64
  | 65 => some f65
  | 66 => some f66
  | 67 => some f67
  | 68 => some f68
  | 69 => some f69
  | 70 => some f70
  | 71 => some f71
  | 72 => some f72
  | 73 => some f73
  | 74 => some f74
  | 75 => some f75
  | 76 => some f76
  | 77 => some f77
  | 78 => some f78
  | 79 => some f79
  | 81 => some f81
  | 82 => some f82
  | 83 => some f83
  | 84 => some f84
  | 85 => some f85
  | 86 => some f86
  | 87 => some f87
  | 88 => some f88
  | 89 => some f89
  | 90 => some f90
  | 91 => some f91
  | 92 => some f92
  | 93 => some f93
  | 94 => some f94
  | 95 => some f95
  | 96 => some f96
  | 97 => some f97
  | 98 => some f98
  | 99 => some f99
  | 100 => some f100
  | 101 => some f101
  | 102 => some f102
  | 103 => some f103
  | 104 => some f104
  | 105 => some f105
  | 106 => some f106
  | 107 => some f107
  | 108 => some f108
  | 109 => some f109
  | 110 => some f110
  | 111 => some f111
  | 112 => some f112
  | 113 => some f113
  | 114 => some f114
  | 115 => some f115
  | 116 => some f116
  | 117 => some f117
  | 119 => some f119
  | 120 => some f120
  | 121 => some f121
  | 122 => some f122
  | 123 => some f123
  | 124 => some f124
  | 125 => some f125
  | 126 => some f126
  | 127 => some f127
  | 128 => some f128
  | 129 => some f129
  | 130 => some f130
  | 131 => some f131
  | 132 => some f132
  | 133 => some f133
  | 134 => some f134
  | 135 => some f135
  | 136 => some f136
  | 137 => some f137
  | 138 => some f138
  | 139 => some f139
  | 140 => some f140
  | 141 => some f141
  | 142 => some f142
  | 143 => some f143
  | 144 => some f144
  | 145 => some f145
  | 146 => some f146
  | 147 => some f147
  | 148 => some f148
  | _ => none

def exT : Nat → Option CallT
  | 32 => some exLoad
  | 45 => some exAdd
  | 62 => some (exIns 7 64)
  | 104 => some (exIns 2 16)
  | _ => none

def G : GP := ⟨fnT, md, exT⟩

def OkF (f : Nat) (fn : Fn) : Prop := ∃ F, Tryz.prog.funcs[f]? = some F ∧ compFn Tryz.prog G.md F = some fn ∧ (F.name == "runtime.NumGoroutine") = false

theorem okF : ∀ f fn, fnT f = some fn → OkF f fn := by
  intro f fn h
  unfold fnT at h
  split at h
  · exact Option.some.inj h ▸ ⟨Tryz.f3, Tryz.func3, c3, by kernel_rfl⟩
  · exact Option.some.inj h ▸ ⟨Tryz.f4, Tryz.func4, c4, by kernel_rfl⟩
  · exact Option.some.inj h ▸ ⟨Tryz.f5, Tryz.func5, c5, by kernel_rfl⟩
  · exact Option.some.inj h ▸ ⟨Tryz.f6, Tryz.func6, c6, by kernel_rfl⟩
  · exact Option.some.inj h ▸ ⟨Tryz.f7, Tryz.func7, c7, by kernel_rfl⟩
  · exact Option.some.inj h ▸ ⟨Tryz.f8, Tryz.func8, c8, by kernel_rfl⟩
  · exact Option.some.inj h ▸ ⟨Tryz.f9, Tryz.func9, c9, by kernel_rfl⟩
  · exact Option.some.inj h ▸ ⟨Tryz.f10, Tryz.func10, c10, by kernel_rfl⟩
  · exact Option.some.inj h ▸ ⟨Tryz.f11, Tryz.func11, c11, by kernel_rfl⟩
  · exact Option.some.inj h ▸ ⟨Tryz.f12, Tryz.func12, c12, by kernel_rfl⟩
  · exact Option.some.inj h ▸ ⟨Tryz.f13, Tryz.func13, c13, by kernel_rfl⟩
  · exact Option.some.inj h ▸ ⟨Tryz.f14, Tryz.func14, c14, by kernel_rfl⟩
  · exact Option.some.inj h ▸ ⟨Tryz.f15, Tryz.func15, c15, by kernel_rfl⟩
  · exact Option.some.inj h ▸ ⟨Tryz.f16, Tryz.func16, c16, by kernel_rfl⟩
  · exact Option.some.inj h ▸ ⟨Tryz.f17, Tryz.func17, c17, by kernel_rfl⟩
  · exact Option.some.inj h ▸ ⟨Tryz.f18, Tryz.func18, c18, by kernel_rfl⟩
  · exact Option.some.inj h ▸ ⟨Tryz.f19, Tryz.func19, c19, by kernel_rfl⟩
  · exact Option.some.inj h ▸ ⟨Tryz.f20, Tryz.func20, c20, by kernel_rfl⟩
  · exact Option.some.inj h ▸ ⟨Tryz.f21, Tryz.func21, c21, by kernel_rfl⟩
  · exact Option.some.inj h ▸ ⟨Tryz.f22, Tryz.func22, c22, by kernel_rfl⟩
  · exact Option.some.inj h ▸ ⟨Tryz.f23, Tryz.func23, c23, by kernel_rfl⟩
  · exact Option.some.inj h ▸ ⟨Tryz.f24, Tryz.func24, c24, by kernel_rfl⟩
  · exact Option.some.inj h ▸ ⟨Tryz.f25, Tryz.func25, c25, by kernel_rfl⟩
  · exact Option.some.inj h ▸ ⟨Tryz.f26, Tryz.func26, c26, by kernel_rfl⟩
  · exact Option.some.inj h ▸ ⟨Tryz.f27, Tryz.func27, c27, by kernel_rfl⟩
  · exact Option.some.inj h ▸ ⟨Tryz.f28, Tryz.func28, c28, by kernel_rfl⟩
  · exact Option.some.inj h ▸ ⟨Tryz.f29, Tryz.func29, c29, by kernel_rfl⟩
  · exact Option.some.inj h ▸ ⟨Tryz.f30, Tryz.func30, c30, by kernel_rfl⟩
  · exact Option.some.inj h ▸ ⟨Tryz.f31, Tryz.func31, c31, by kernel_rfl⟩
  · exact Option.some.inj h ▸ ⟨Tryz.f32, Tryz.func32, c32, by kernel_rfl⟩
  · exact Option.some.inj h ▸ ⟨Tryz.f33, Tryz.func33, c33, by kernel_rfl⟩
  · exact Option.some.inj h ▸ ⟨Tryz.f34, Tryz.func34, c34, by kernel_rfl⟩
  · exact Option.some.inj h ▸ ⟨Tryz.f35, Tryz.func35, c35, by kernel_rfl⟩
  · exact Option.some.inj h ▸ ⟨Tryz.f36, Tryz.func36, c36, by kernel_rfl⟩
  · exact Option.some.inj h ▸ ⟨Tryz.f37, Tryz.func37, c37, by kernel_rfl⟩
  · exact Option.some.inj h ▸ ⟨Tryz.f38, Tryz.func38, c38, by kernel_rfl⟩
  · exact Option.some.inj h ▸ ⟨Tryz.f39, Tryz.func39, c39, by kernel_rfl⟩
  · exact Option.some.inj h ▸ ⟨Tryz.f40, Tryz.func40, c40, by kernel_rfl⟩
  · exact Option.some.inj h ▸ ⟨Tryz.f41, Tryz.func41, c41, by kernel_rfl⟩
  · exact Option.some.inj h ▸ ⟨Tryz.f42, Tryz.func42, c42, by kernel_rfl⟩
  · exact Option.some.inj h ▸ ⟨Tryz.f43, Tryz.func43, c43, by kernel_rfl⟩
  · exact Option.some.inj h ▸ ⟨Tryz.f44, Tryz.func44, c44, by kernel_rfl⟩
  · exact Option.some.inj h ▸ ⟨Tryz.f45, Tryz.func45, c45, by kernel_rfl⟩
  · exact Option.some.inj h ▸ ⟨Tryz.f46, Tryz.func46, c46, by kernel_rfl⟩
  · exact Option.some.inj h ▸ ⟨Tryz.f48, Tryz.func48, c48, by kernel_rfl⟩
  · exact Option.some.inj h ▸ ⟨Tryz.f49, Tryz.func49, c49, by kernel_rfl⟩
  · exact Option.some.inj h ▸ ⟨Tryz.f50, Tryz.func50, c50, by kernel_rfl⟩
  · exact Option.some.inj h ▸ ⟨Tryz.f51, Tryz.func51, c51, by kernel_rfl⟩
  · exact Option.some.inj h ▸ ⟨Tryz.f52, Tryz.func52, c52, by kernel_rfl⟩
  · exact Option.some.inj h ▸ ⟨Tryz.f53, Tryz.func53, c53, by kernel_rfl⟩
  · exact Option.some.inj h ▸ ⟨Tryz.f54, Tryz.func54, c54, by kernel_rfl⟩
  · exact Option.some.inj h ▸ ⟨Tryz.f55, Tryz.func55, c55, by kernel_rfl⟩
  · exact Option.some.inj h ▸ ⟨Tryz.f56, Tryz.func56, c56, by kernel_rfl⟩
  · exact Option.some.inj h ▸ ⟨Tryz.f57, Tryz.func57, c57, by kernel_rfl⟩
  · exact Option.some.inj h ▸ ⟨Tryz.f58, Tryz.func58, c58, by kernel_rfl⟩
  · exact Option.some.inj h ▸ ⟨Tryz.f59, Tryz.func59, c59, by kernel_rfl⟩
  · exact Option.some.inj h ▸ ⟨Tryz.f61, Tryz.func61, c61, by kernel_rfl⟩
  · exact Option.some.inj h ▸ ⟨Tryz.f62, Tryz.func62, c62, by kernel_rfl⟩
  · exact Option.some.inj h ▸ ⟨Tryz.f63, Tryz.func63, c63, by kernel_rfl⟩
  · exact Option.some.inj h ▸ ⟨Tryz.f64, Tryz.func64, c64, by kernel_rfl⟩
  · exact Option.some.inj h ▸ ⟨Tryz.f65, Tryz.func65, c65, by kernel_rfl⟩
  · exact Option.some.inj h ▸ ⟨Tryz.f66, Tryz.func66, c66, by kernel_rfl⟩
  · exact Option.some.inj h ▸ ⟨Tryz.f67, Tryz.func67, c67, by kernel_rfl⟩
  · exact Option.some.inj h ▸ ⟨Tryz.f68, Tryz.func68, c68, by kernel_rfl⟩
  · exact Option.some.inj h ▸ ⟨Tryz.f69, Tryz.func69, c69, by kernel_rfl⟩
  · exact Option.some.inj h ▸ ⟨Tryz.f70, Tryz.func70, c70, by kernel_rfl⟩
  · exact Option.some.inj h ▸ ⟨Tryz.f71, Tryz.func71, c71, by kernel_rfl⟩
  · exact Option.some.inj h ▸ ⟨Tryz.f72, Tryz.func72, c72, by kernel_rfl⟩
  · exact Option.some.inj h ▸ ⟨Tryz.f73, Tryz.func73, c73, by kernel_rfl⟩
  · exact Option.some.inj h ▸ ⟨Tryz.f74, Tryz.func74, c74, by kernel_rfl⟩
  · exact Option.some.inj h ▸ ⟨Tryz.f75, Tryz.func75, c75, by kernel_rfl⟩
  · exact Option.some.inj h ▸ ⟨Tryz.f76, Tryz.func76, c76, by kernel_rfl⟩
  · exact Option.some.inj h ▸ ⟨Tryz.f77, Tryz.func77, c77, by kernel_rfl⟩
  · exact Option.some.inj h ▸ ⟨Tryz.f78, Tryz.func78, c78, by kernel_rfl⟩
  · exact Option.some.inj h ▸ ⟨Tryz.f79, Tryz.func79, c79, by kernel_rfl⟩
  · exact Option.some.inj h ▸ ⟨Tryz.f81, Tryz.func81, c81, by kernel_rfl⟩
  · exact Option.some.inj h ▸ ⟨Tryz.f82, Tryz.func82, c82, by kernel_rfl⟩
  · exact Option.some.inj h ▸ ⟨Tryz.f83, Tryz.func83, c83, by kernel_rfl⟩
  · exact Option.some.inj h ▸ ⟨Tryz.f84, Tryz.func84, c84, by kernel_rfl⟩
  · exact Option.some.inj h ▸ ⟨Tryz.f85, Tryz.func85, c85, by kernel_rfl⟩
  · exact Option.some.inj h ▸ ⟨Tryz.f86, Tryz.func86, c86, by kernel_rfl⟩
  · exact Option.some.inj h ▸ ⟨Tryz.f87, Tryz.func87, c87, by kernel_rfl⟩
  · exact Option.some.inj h ▸ ⟨Tryz.f88, Tryz.func88, c88, by kernel_rfl⟩
  · exact Option.some.inj h ▸ ⟨Tryz.f89, Tryz.func89, c89, by kernel_rfl⟩
  · exact Option.some.inj h ▸ ⟨Tryz.f90, Tryz.func90, c90, by kernel_rfl⟩
  · exact Option.some.inj h ▸ ⟨Tryz.f91, Tryz.func91, c91, by kernel_rfl⟩
  · exact Option.some.inj h ▸ ⟨Tryz.f92, Tryz.func92, c92, by kernel_rfl⟩
  · exact Option.some.inj h ▸ ⟨Tryz.f93, Tryz.func93, c93, by kernel_rfl⟩
  · exact Option.some.inj h ▸ ⟨Tryz.f94, Tryz.func94, c94, by kernel_rfl⟩
  · exact Option.some.inj h ▸ ⟨Tryz.f95, Tryz.func95, c95, by kernel_rfl⟩
  · exact Option.some.inj h ▸ ⟨Tryz.f96, Tryz.func96, c96, by kernel_rfl⟩
  · exact Option.some.inj h ▸ ⟨Tryz.f97, Tryz.func97, c97, by kernel_rfl⟩
  · exact Option.some.inj h ▸ ⟨Tryz.f98, Tryz.func98, c98, by kernel_rfl⟩
  · exact Option.some.inj h ▸ ⟨Tryz.f99, Tryz.func99, c99, by kernel_rfl⟩
  · exact Option.some.inj h ▸ ⟨Tryz.f100, Tryz.func100, c100, by kernel_rfl⟩
  · exact Option.some.inj h ▸ ⟨Tryz.f101, Tryz.func101, c101, by kernel_rfl⟩
  · exact Option.some.inj h ▸ ⟨Tryz.f102, Tryz.func102, c102, by kernel_rfl⟩
  · exact Option.some.inj h ▸ ⟨Tryz.f103, Tryz.func103, c103, by kernel_rfl⟩
  · exact Option.some.inj h ▸ ⟨Tryz.f104, Tryz.func104, c104, by kernel_rfl⟩
  · exact Option.some.inj h ▸ ⟨Tryz.f105, Tryz.func105, c105, by kernel_rfl⟩
  · exact Option.some.inj h ▸ ⟨Tryz.f106, Tryz.func106, c106, by kernel_rfl⟩
  · exact Option.some.inj h ▸ ⟨Tryz.f107, Tryz.func107, c107, by kernel_rfl⟩
  · exact Option.some.inj h ▸ ⟨Tryz.f108, Tryz.func108, c108, by kernel_rfl⟩
  · exact Option.some.inj h ▸ ⟨Tryz.f109, Tryz.func109, c109, by kernel_rfl⟩
  · exact Option.some.inj h ▸ ⟨Tryz.f110, Tryz.func110, c110, by kernel_rfl⟩
  · exact Option.some.inj h ▸ ⟨Tryz.f111, Tryz.func111, c111, by kernel_rfl⟩
  · exact Option.some.inj h ▸ ⟨Tryz.f112, Tryz.func112, c112, by kernel_rfl⟩
  · exact Option.some.inj h ▸ ⟨Tryz.f113, Tryz.func113, c113, by kernel_rfl⟩
  · exact Option.some.inj h ▸ ⟨Tryz.f114, Tryz.func114, c114, by kernel_rfl⟩
  · exact Option.some.inj h ▸ ⟨Tryz.f115, Tryz.func115, c115, by kernel_rfl⟩
  · exact Option.some.inj h ▸ ⟨Tryz.f116, Tryz.func116, c116, by kernel_rfl⟩
  · exact Option.some.inj h ▸ ⟨Tryz.f117, Tryz.func117, c117, by kernel_rfl⟩
  · exact Option.some.inj h ▸ ⟨Tryz.f119, Tryz.func119, c119, by kernel_rfl⟩
  · exact Option.some.inj h ▸ ⟨Tryz.f120, Tryz.func120, c120, by kernel_rfl⟩
  · exact Option.some.inj h ▸ ⟨Tryz.f121, Tryz.func121, c121, by kernel_rfl⟩
  · exact Option.some.inj h ▸ ⟨Tryz.f122, Tryz.func122, c122, by kernel_rfl⟩
  · exact Option.some.inj h ▸ ⟨Tryz.f123, Tryz.func123, c123, by kernel_rfl⟩
  · exact Option.some.inj h ▸ ⟨Tryz.f124, Tryz.func124, c124, by kernel_rfl⟩
  · exact Option.some.inj h ▸ ⟨Tryz.f125, Tryz.func125, c125, by kernel_rfl⟩
  · exact Option.some.inj h ▸ ⟨Tryz.f126, Tryz.func126, c126, by kernel_rfl⟩
  · exact Option.some.inj h ▸ ⟨Tryz.f127, Tryz.func127, c127, by kernel_rfl⟩
  · exact Option.some.inj h ▸ ⟨Tryz.f128, Tryz.func128, c128, by kernel_rfl⟩
  · exact Option.some.inj h ▸ ⟨Tryz.f129, Tryz.func129, c129, by kernel_rfl⟩
  · exact Option.some.inj h ▸ ⟨Tryz.f130, Tryz.func130, c130, by kernel_rfl⟩
  · exact Option.some.inj h ▸ ⟨Tryz.f131, Tryz.func131, c131, by kernel_rfl⟩
  · exact Option.some.inj h ▸ ⟨Tryz.f132, Tryz.func132, c132, by kernel_rfl⟩
  · exact Option.some.inj h ▸ ⟨Tryz.f133, Tryz.func133, c133, by kernel_rfl⟩
  · exact Option.some.inj h ▸ ⟨Tryz.f134, Tryz.func134, c134, by kernel_rfl⟩
  · exact Option.some.inj h ▸ ⟨Tryz.f135, Tryz.func135, c135, by kernel_rfl⟩
  · exact Option.some.inj h ▸ ⟨Tryz.f136, Tryz.func136, c136, by kernel_rfl⟩
  · exact Option.some.inj h ▸ ⟨Tryz.f137, Tryz.func137, c137, by kernel_rfl⟩
  · exact Option.some.inj h ▸ ⟨Tryz.f138, Tryz.func138, c138, by kernel_rfl⟩
  · exact Option.some.inj h ▸ ⟨Tryz.f139, Tryz.func139, c139, by kernel_rfl⟩
  · exact Option.some.inj h ▸ ⟨Tryz.f140, Tryz.func140, c140, by kernel_rfl⟩
  · exact Option.some.inj h ▸ ⟨Tryz.f141, Tryz.func141, c141, by kernel_rfl⟩
  · exact Option.some.inj h ▸ ⟨Tryz.f142, Tryz.func142, c142, by kernel_rfl⟩
  · exact Option.some.inj h ▸ ⟨Tryz.f143, Tryz.func143, c143, by kernel_rfl⟩
  · exact Option.some.inj h ▸ ⟨Tryz.f144, Tryz.func144, c144, by kernel_rfl⟩
  · exact Option.some.inj h ▸ ⟨Tryz.f145, Tryz.func145, c145, by kernel_rfl⟩
  · exact Option.some.inj h ▸ ⟨Tryz.f146, Tryz.func146, c146, by kernel_rfl⟩
  · exact Option.some.inj h ▸ ⟨Tryz.f147, Tryz.func147, c147, by kernel_rfl⟩
  · exact Option.some.inj h ▸ ⟨Tryz.f148, Tryz.func148, c148, by kernel_rfl⟩
  · cases h

theorem holds : Holds Tryz.prog G where
  mixed := by kernel_rfl
  fn := okF
  ex := by
    intro f g h
    simp only [G, exT] at h
    split at h
    · exact Option.some.inj h ▸ load_sound _
    · exact Option.some.inj h ▸ add_sound _
    · exact Option.some.inj h ▸ ins62_sound _
    · exact Option.some.inj h ▸ ins104_sound _
    · cases h
  yf := by kernel_rfl
  ye := by kernel_rfl

theorem sound : SoundC Tryz.prog G.md (callW G) := sound_callW holds

theorem G_md (f : Nat) : G.md f = md f := rfl
attribute [simp] G_md md

end Go.Ev.S
