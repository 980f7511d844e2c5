import Derived.Test.YtiplefdmpcjgcaaGreatDbA
import Derived.Test.YtiplefdmpcjgcaaGreatEvShown
namespace Go.Ev.S
open Go Go.Ev

theorem shown_c (L : Lv) : pcall (callW G) [] L 9 [] = some (.bool true) := by
  obtain ⟨L', h⟩ := shown_at L
  unfold pcall
  rw [if_neg (by simp [yieldF])]
  simp [h]

theorem ticks_law (d : Dbs) (hd : d.wf) (a b : Int) : ∃ v L', callW G 7 [.agg d.av, .int .i64 a, .int .i64 b] [] [] = some (v, L') ∧ v = .bool true := by
  refine call_of_wp rfl rfl ?_
  have hsh := shown_c
  have hf := fun H L => few_c H L d hd
  have hr := fun H L => right9_c H L d
  simp only [Dbs.av] at hf hr
  by_cases h1 : d.l.length + tot d.l ≤ 2000
  · simp only [h1, decide_true] at hf
    cases h2 : d.right with
    | false =>
      simp only [h2] at hr
      simp [f7r0, f7r1, f7r2, f7r3, Dbs.av, hsh, hf, hr]
    | true =>
      simp only [h2] at hr
      simp [f7r0, f7r1, f7r2, f7r3, Dbs.av, hsh, hf, hr]
      repeat' ((first | refine gG_ndec ?_ ?_ | refine gG_dec ?_ ?_ | refine gG_some ?_ ?_) <;> intro g <;> simp [g])
      have hok := Dbs.right_ok h2
      have hlen := Dbs.right_len h2
      have a0 : 0 ≤ a := by omega
      have b0 : 0 ≤ b := by omega
      have a1 : a ≤ 1000000 := by omega
      have b1 : b ≤ 1000000 := by omega
      have la := Dbs.tick_len d a
      have lab := Dbs.tick_len (d.tick a) b
      have l0 := Dbs.tick_len d 0
      have lm := Dbs.tick_len d (-a)
      have oka := Dbs.tick_ok hok a
      have okab := Dbs.tick_ok oka b
      have big : ∀ (e : Dbs), (∀ p ∈ e.l, p.ok) → ∀ p ∈ e.l, p.mb.srcs.length ≤ 140737488355328 := fun e he p hp => by have := (he p hp).mb.len; omega
      have t1 := fun H L => tick9_c H L d hok (by omega) a
      have t2 := fun H L => tick9_c H L (d.tick a) oka (by omega) b
      have t3 := fun H L => tick9_c H L d hok (by omega) (a + b)
      have t4 := fun H L => tick9_c H L d hok (by omega) 0
      have t5 := fun H L => tick9_c H L d hok (by omega) (-a)
      have s1 := fun H L => same9_c H L ((d.tick a).tick b) (d.tick (a + b)) (by omega) (big _ okab)
      have s2 := fun H L => same9_c H L (d.tick 0) d (by omega) (big _ (Dbs.tick_ok hok 0))
      have s3 := fun H L => same9_c H L (d.tick (-a)) d (by omega) (big _ (Dbs.tick_ok hok (-a)))
      simp only [Dbs.tick_tick h2 a0 a1 b0 b1, Dbs.tick_zero h2 (show (0 : Int) ≤ 0 by omega), Dbs.tick_zero h2 (show -a ≤ 0 by omega)] at s1 s2 s3
      simp only [Dbs.av] at t1 t2 t3 t4 t5 s1 s2 s3
      have w1 : IntKind.i64.wrap (a + b) = a + b := wrap_i (by omega) (by omega)
      have w2 : IntKind.i64.wrap (-a) = -a := wrap_i (by omega) (by omega)
      have hle : ((d.tick a).tick b).l.length ≤ d.l.length := by omega
      simp [f7r4, f7r5, t1, t2, t3, t4, t5, s1, s2, s3, w1, w2, hle]
  · simp only [h1, decide_false] at hf
    simp [f7r0, f7r1, f7r2, f7r3, Dbs.av, hsh, hf]

end Go.Ev.S
