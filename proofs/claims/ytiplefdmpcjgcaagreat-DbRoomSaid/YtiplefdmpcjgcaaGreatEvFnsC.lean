/- That the functions' texts are the program's. -/
import Derived.Test.YtiplefdmpcjgcaaGreatEvFns0
import Derived.Test.YtiplefdmpcjgcaaGreatEvFns1
import Derived.Test.YtiplefdmpcjgcaaGreatEvFns2
import Derived.Test.YtiplefdmpcjgcaaGreatEvComp
import Derived.Test.YtiplefdmpcjgcaaGreatProg
import Derived.KernelRfl
namespace Go.Ev.S
open Go Go.Ev Go.Proofs

def md : Nat → Md
  | 28 => .impure
  | 29 => .impure
  | 30 => .impure
  | 31 => .impure
  | 45 => .impure
  | 46 => .impure
  | 61 => .impure
  | 62 => .impure
  | 63 => .impure
  | 73 => .impure
  | 74 => .impure
  | 75 => .impure
  | 76 => .impure
  | 77 => .impure
  | 79 => .impure
  | 81 => .impure
  | 91 => .impure
  | 92 => .impure
  | 93 => .impure
  | 99 => .impure
  | 100 => .impure
  | 101 => .impure
  | 102 => .impure
  | 104 => .impure
  | 105 => .impure
  | 114 => .impure
  | 115 => .impure
  | 117 => .impure
  | 119 => .impure
  | 120 => .impure
  | 123 => .impure
  | 124 => .impure
  | 125 => .impure
  | 127 => .impure
  | 132 => .impure
  | 133 => .impure
  | 134 => .impure
  | 135 => .impure
  | 136 => .impure
  | 137 => .impure
  | 138 => .impure
  | 139 => .impure
  | 142 => .impure
  | 143 => .impure
  | 145 => .impure
  | 146 => .impure
  | 147 => .impure
  | 148 => .impure
  | _ => .pure

theorem c2 : compFn Tryz.prog md Tryz.f2 = some f2 := by kernel_rfl
theorem c3 : compFn Tryz.prog md Tryz.f3 = some f3 := by kernel_rfl
theorem c4 : compFn Tryz.prog md Tryz.f4 = some f4 := by kernel_rfl
theorem c5 : compFn Tryz.prog md Tryz.f5 = some f5 := by kernel_rfl
theorem c6 : compFn Tryz.prog md Tryz.f6 = some f6 := by kernel_rfl
theorem c7 : compFn Tryz.prog md Tryz.f7 = some f7 := by kernel_rfl
theorem c8 : compFn Tryz.prog md Tryz.f8 = some f8 := by kernel_rfl
theorem c9 : compFn Tryz.prog md Tryz.f9 = some f9 := by kernel_rfl
theorem c10 : compFn Tryz.prog md Tryz.f10 = some f10 := by kernel_rfl
theorem c11 : compFn Tryz.prog md Tryz.f11 = some f11 := by kernel_rfl
theorem c12 : compFn Tryz.prog md Tryz.f12 = some f12 := by kernel_rfl
theorem c13 : compFn Tryz.prog md Tryz.f13 = some f13 := by kernel_rfl
theorem c14 : compFn Tryz.prog md Tryz.f14 = some f14 := by kernel_rfl
theorem c15 : compFn Tryz.prog md Tryz.f15 = some f15 := by kernel_rfl
theorem c16 : compFn Tryz.prog md Tryz.f16 = some f16 := by kernel_rfl
theorem c17 : compFn Tryz.prog md Tryz.f17 = some f17 := by kernel_rfl
theorem c18 : compFn Tryz.prog md Tryz.f18 = some f18 := by kernel_rfl
theorem c19 : compFn Tryz.prog md Tryz.f19 = some f19 := by kernel_rfl
theorem c20 : compFn Tryz.prog md Tryz.f20 = some f20 := by kernel_rfl
theorem c21 : compFn Tryz.prog md Tryz.f21 = some f21 := by kernel_rfl
theorem c22 : compFn Tryz.prog md Tryz.f22 = some f22 := by kernel_rfl
theorem c23 : compFn Tryz.prog md Tryz.f23 = some f23 := by kernel_rfl
theorem c24 : compFn Tryz.prog md Tryz.f24 = some f24 := by kernel_rfl
theorem c25 : compFn Tryz.prog md Tryz.f25 = some f25 := by kernel_rfl
theorem c26 : compFn Tryz.prog md Tryz.f26 = some f26 := by kernel_rfl
theorem c27 : compFn Tryz.prog md Tryz.f27 = some f27 := by kernel_rfl
theorem c28 : compFn Tryz.prog md Tryz.f28 = some f28 := by kernel_rfl
theorem c29 : compFn Tryz.prog md Tryz.f29 = some f29 := by kernel_rfl
theorem c30 : compFn Tryz.prog md Tryz.f30 = some f30 := by kernel_rfl
theorem c31 : compFn Tryz.prog md Tryz.f31 = some f31 := by kernel_rfl
theorem c32 : compFn Tryz.prog md Tryz.f32 = some f32 := by kernel_rfl
theorem c33 : compFn Tryz.prog md Tryz.f33 = some f33 := by kernel_rfl
theorem c34 : compFn Tryz.prog md Tryz.f34 = some f34 := by kernel_rfl
theorem c35 : compFn Tryz.prog md Tryz.f35 = some f35 := by kernel_rfl
theorem c36 : compFn Tryz.prog md Tryz.f36 = some f36 := by kernel_rfl
theorem c37 : compFn Tryz.prog md Tryz.f37 = some f37 := by kernel_rfl
theorem c38 : compFn Tryz.prog md Tryz.f38 = some f38 := by kernel_rfl
theorem c39 : compFn Tryz.prog md Tryz.f39 = some f39 := by kernel_rfl
theorem c40 : compFn Tryz.prog md Tryz.f40 = some f40 := by kernel_rfl
theorem c41 : compFn Tryz.prog md Tryz.f41 = some f41 := by kernel_rfl
theorem c42 : compFn Tryz.prog md Tryz.f42 = some f42 := by kernel_rfl
theorem c43 : compFn Tryz.prog md Tryz.f43 = some f43 := by kernel_rfl
theorem c44 : compFn Tryz.prog md Tryz.f44 = some f44 := by kernel_rfl
theorem c45 : compFn Tryz.prog md Tryz.f45 = some f45 := by kernel_rfl
theorem c46 : compFn Tryz.prog md Tryz.f46 = some f46 := by kernel_rfl
theorem c48 : compFn Tryz.prog md Tryz.f48 = some f48 := by kernel_rfl
theorem c49 : compFn Tryz.prog md Tryz.f49 = some f49 := by kernel_rfl
theorem c50 : compFn Tryz.prog md Tryz.f50 = some f50 := by kernel_rfl
theorem c51 : compFn Tryz.prog md Tryz.f51 = some f51 := by kernel_rfl
theorem c52 : compFn Tryz.prog md Tryz.f52 = some f52 := by kernel_rfl
theorem c53 : compFn Tryz.prog md Tryz.f53 = some f53 := by kernel_rfl
theorem c54 : compFn Tryz.prog md Tryz.f54 = some f54 := by kernel_rfl
theorem c55 : compFn Tryz.prog md Tryz.f55 = some f55 := by kernel_rfl
theorem c56 : compFn Tryz.prog md Tryz.f56 = some f56 := by kernel_rfl
theorem c57 : compFn Tryz.prog md Tryz.f57 = some f57 := by kernel_rfl
theorem c58 : compFn Tryz.prog md Tryz.f58 = some f58 := by kernel_rfl
theorem c59 : compFn Tryz.prog md Tryz.f59 = some f59 := by kernel_rfl
theorem c61 : compFn Tryz.prog md Tryz.f61 = some f61 := by kernel_rfl
theorem c62 : compFn Tryz.prog md Tryz.f62 = some f62 := by kernel_rfl
theorem c63 : compFn Tryz.prog md Tryz.f63 = some f63 := by kernel_rfl
theorem c64 : compFn Tryz.prog md Tryz.f64 = some f64 := by kernel_rfl
theorem c65 : compFn Tryz.prog md Tryz.f65 = some f65 := by kernel_rfl
theorem c66 : compFn Tryz.prog md Tryz.f66 = some f66 := by kernel_rfl
theorem c67 : compFn Tryz.prog md Tryz.f67 = some f67 := by kernel_rfl
theorem c68 : compFn Tryz.prog md Tryz.f68 = some f68 := by kernel_rfl
theorem c69 : compFn Tryz.prog md Tryz.f69 = some f69 := by kernel_rfl
theorem c70 : compFn Tryz.prog md Tryz.f70 = some f70 := by kernel_rfl
theorem c71 : compFn Tryz.prog md Tryz.f71 = some f71 := by kernel_rfl
theorem c72 : compFn Tryz.prog md Tryz.f72 = some f72 := by kernel_rfl
theorem c73 : compFn Tryz.prog md Tryz.f73 = some f73 := by kernel_rfl
theorem c74 : compFn Tryz.prog md Tryz.f74 = some f74 := by kernel_rfl
theorem c75 : compFn Tryz.prog md Tryz.f75 = some f75 := by kernel_rfl
theorem c76 : compFn Tryz.prog md Tryz.f76 = some f76 := by kernel_rfl
theorem c77 : compFn Tryz.prog md Tryz.f77 = some f77 := by kernel_rfl
theorem c78 : compFn Tryz.prog md Tryz.f78 = some f78 := by kernel_rfl
theorem c79 : compFn Tryz.prog md Tryz.f79 = some f79 := by kernel_rfl
theorem c81 : compFn Tryz.prog md Tryz.f81 = some f81 := by kernel_rfl
theorem c82 : compFn Tryz.prog md Tryz.f82 = some f82 := by kernel_rfl
theorem c83 : compFn Tryz.prog md Tryz.f83 = some f83 := by kernel_rfl
theorem c84 : compFn Tryz.prog md Tryz.f84 = some f84 := by kernel_rfl
theorem c85 : compFn Tryz.prog md Tryz.f85 = some f85 := by kernel_rfl
theorem c86 : compFn Tryz.prog md Tryz.f86 = some f86 := by kernel_rfl
theorem c87 : compFn Tryz.prog md Tryz.f87 = some f87 := by kernel_rfl
theorem c88 : compFn Tryz.prog md Tryz.f88 = some f88 := by kernel_rfl
theorem c89 : compFn Tryz.prog md Tryz.f89 = some f89 := by kernel_rfl
theorem c90 : compFn Tryz.prog md Tryz.f90 = some f90 := by kernel_rfl
theorem c91 : compFn Tryz.prog md Tryz.f91 = some f91 := by kernel_rfl
theorem c92 : compFn Tryz.prog md Tryz.f92 = some f92 := by kernel_rfl
theorem c93 : compFn Tryz.prog md Tryz.f93 = some f93 := by kernel_rfl
theorem c94 : compFn Tryz.prog md Tryz.f94 = some f94 := by kernel_rfl
theorem c95 : compFn Tryz.prog md Tryz.f95 = some f95 := by kernel_rfl
theorem c96 : compFn Tryz.prog md Tryz.f96 = some f96 := by kernel_rfl
theorem c97 : compFn Tryz.prog md Tryz.f97 = some f97 := by kernel_rfl
theorem c98 : compFn Tryz.prog md Tryz.f98 = some f98 := by kernel_rfl
theorem c99 : compFn Tryz.prog md Tryz.f99 = some f99 := by kernel_rfl
theorem c100 : compFn Tryz.prog md Tryz.f100 = some f100 := by kernel_rfl
theorem c101 : compFn Tryz.prog md Tryz.f101 = some f101 := by kernel_rfl
theorem c102 : compFn Tryz.prog md Tryz.f102 = some f102 := by kernel_rfl
theorem c103 : compFn Tryz.prog md Tryz.f103 = some f103 := by kernel_rfl
theorem c104 : compFn Tryz.prog md Tryz.f104 = some f104 := by kernel_rfl
theorem c105 : compFn Tryz.prog md Tryz.f105 = some f105 := by kernel_rfl
theorem c106 : compFn Tryz.prog md Tryz.f106 = some f106 := by kernel_rfl
theorem c107 : compFn Tryz.prog md Tryz.f107 = some f107 := by kernel_rfl
theorem c108 : compFn Tryz.prog md Tryz.f108 = some f108 := by kernel_rfl
theorem c109 : compFn Tryz.prog md Tryz.f109 = some f109 := by kernel_rfl
theorem c110 : compFn Tryz.prog md Tryz.f110 = some f110 := by kernel_rfl
theorem c111 : compFn Tryz.prog md Tryz.f111 = some f111 := by kernel_rfl
theorem c112 : compFn Tryz.prog md Tryz.f112 = some f112 := by kernel_rfl
theorem c113 : compFn Tryz.prog md Tryz.f113 = some f113 := by kernel_rfl
theorem c114 : compFn Tryz.prog md Tryz.f114 = some f114 := by kernel_rfl
theorem c115 : compFn Tryz.prog md Tryz.f115 = some f115 := by kernel_rfl
theorem c116 : compFn Tryz.prog md Tryz.f116 = some f116 := by kernel_rfl
theorem c117 : compFn Tryz.prog md Tryz.f117 = some f117 := by kernel_rfl
theorem c119 : compFn Tryz.prog md Tryz.f119 = some f119 := by kernel_rfl
theorem c120 : compFn Tryz.prog md Tryz.f120 = some f120 := by kernel_rfl
theorem c121 : compFn Tryz.prog md Tryz.f121 = some f121 := by kernel_rfl
theorem c122 : compFn Tryz.prog md Tryz.f122 = some f122 := by kernel_rfl
theorem c123 : compFn Tryz.prog md Tryz.f123 = some f123 := by kernel_rfl
theorem c124 : compFn Tryz.prog md Tryz.f124 = some f124 := by kernel_rfl
theorem c125 : compFn Tryz.prog md Tryz.f125 = some f125 := by kernel_rfl
theorem c126 : compFn Tryz.prog md Tryz.f126 = some f126 := by kernel_rfl
theorem c127 : compFn Tryz.prog md Tryz.f127 = some f127 := by kernel_rfl
theorem c128 : compFn Tryz.prog md Tryz.f128 = some f128 := by kernel_rfl
theorem c129 : compFn Tryz.prog md Tryz.f129 = some f129 := by kernel_rfl
theorem c130 : compFn Tryz.prog md Tryz.f130 = some f130 := by kernel_rfl
theorem c131 : compFn Tryz.prog md Tryz.f131 = some f131 := by kernel_rfl
theorem c132 : compFn Tryz.prog md Tryz.f132 = some f132 := by kernel_rfl
theorem c133 : compFn Tryz.prog md Tryz.f133 = some f133 := by kernel_rfl
theorem c134 : compFn Tryz.prog md Tryz.f134 = some f134 := by kernel_rfl
theorem c135 : compFn Tryz.prog md Tryz.f135 = some f135 := by kernel_rfl
theorem c136 : compFn Tryz.prog md Tryz.f136 = some f136 := by kernel_rfl
theorem c137 : compFn Tryz.prog md Tryz.f137 = some f137 := by kernel_rfl
theorem c138 : compFn Tryz.prog md Tryz.f138 = some f138 := by kernel_rfl
theorem c139 : compFn Tryz.prog md Tryz.f139 = some f139 := by kernel_rfl
theorem c140 : compFn Tryz.prog md Tryz.f140 = some f140 := by kernel_rfl
theorem c141 : compFn Tryz.prog md Tryz.f141 = some f141 := by kernel_rfl
theorem c142 : compFn Tryz.prog md Tryz.f142 = some f142 := by kernel_rfl
theorem c143 : compFn Tryz.prog md Tryz.f143 = some f143 := by kernel_rfl
theorem c144 : compFn Tryz.prog md Tryz.f144 = some f144 := by kernel_rfl
theorem c145 : compFn Tryz.prog md Tryz.f145 = some f145 := by kernel_rfl
theorem c146 : compFn Tryz.prog md Tryz.f146 = some f146 := by kernel_rfl
theorem c147 : compFn Tryz.prog md Tryz.f147 = some f147 := by kernel_rfl
theorem c148 : compFn Tryz.prog md Tryz.f148 = some f148 := by kernel_rfl

end Go.Ev.S
