/- A database that has no more room refuses. -/
import Derived.Test.YtiplefdmpcjgcaaGreatDbI
namespace Go.Ev.S
open Go Go.Ev

theorem hear14_full (H : List Lv) (L : Lv) (d : Dbs) (port g : Int) (h1 : 0 ≤ port) (h2 : port < 64) (i : Nat) (hi : i ≤ d.l.length) (hp : posP d.l port g = i) (hh : hasP d.l port g = false)
    (hlen : d.l.length ≤ 2000) (hlim : d.limit ≤ d.l.length) (hmono : Mono (cmpP port g) d.l) (hm : d.m.b = false) :
    pcall (callW G) H L 14 [.agg d.av, .int .i64 port, .agg [.int .u8 22, .int .i64 0, .int .u8 0, .int .u32 g, .bool false, .int .u8 0, .int .u8 0, nilS, nilS]] =
      some (.tup [.agg d.av, nilS, .int .i64 1]) := by
  refine pcall_of_wp rfl rfl (by simp [Dbs.av, nilS]) (by simp [yieldF]) ?_
  have h36 := fun H L => place36_c H L d port g (by omega) hmono
  have h42 := fun H L => of42_c H L ⟨port, 0, 0, ⟨g, false, 0, ⟨true, false, true⟩, []⟩⟩
  have h44 := fun H L => heard44_ex H L d.keep d.last ⟨port, 0, 0, ⟨g, false, 0, ⟨true, false, true⟩, []⟩⟩ (by simp) g
  simp only [Dbs.av, hp, hh] at h36
  simp [Pl.av, nilS] at h42 h44
  obtain ⟨F, hF⟩ := Classical.axiomOfChoice (fun H => Classical.axiomOfChoice (h44 H))
  have hF1 := fun H L => (hF H L).1
  have hF2 := fun H L => (hF H L).2
  simp [f14r0, f14r1, f14r3, f14r4, f14r5, f14r6, f14r7, f14r9, f14r10, nilS, Dbs.av, isPort27_c, h1, h2]
  refine gO_call rfl rfl ?_
  simp [f29r0, f29r1, f29r2, f29r3, nilS, h42, h36]
  simp [f29r5, hF2]
  generalize hfl : F (L :: H) _ = fl
  have hflb : fl.b = false := hfl ▸ hF1 _ _
  clear hfl hF2 h44
  have h42' := fun H L v1 v2 ex left m => of42_c H L ⟨port, v1, v2, ⟨g, ex, left, m, []⟩⟩
  have h39 := fun H L ex left m => msome_c H L ⟨g, ex, left, m, []⟩
  simp [Pl.av, Mb.av] at h42' h39
  simp [f29r6, h39, hlim, f29r7]
  refine gO_ex (show G.ex 45 = some exAdd from rfl) ?_
  have w1 : IntKind.i64.wrap 1 = 1 := by decide
  have h32 := fun c0 c1 c2 a0 a1 a2 a3 a4 a5 n R => load32_c (L :: H) c0 c1 c2 a0 a1 a2 a3 a4 a5 n R
  simp at h32
  simp [exAdd, getB, setB, put, w1, f14r19, h32]
  simp [hm, Dbs.av, nilS]

end Go.Ev.S
