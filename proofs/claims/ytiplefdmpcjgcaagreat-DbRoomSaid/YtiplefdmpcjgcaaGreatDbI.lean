/- A new place hears that all of a group is wanted. -/
import Derived.Test.YtiplefdmpcjgcaaGreatDbE
namespace Go.Ev.S
open Go Go.Ev

theorem gO_ex {f : Nat} {args : List AV} {H : List Lv} {L : Lv} {g : CallT} {K : AV → Lv → Prop} (hx : G.ex f = some g) (h : @gO (g f args H L) ⟨K⟩) : @gO (callW G f args H L) ⟨K⟩ := by
  rw [callW_ex _ _ _ _ hx]
  exact h

theorem flatP_ins (l : List Pl) (i : Nat) (h : i ≤ l.length) (p : Pl) : (flatP l).take (i * 7) ++ p.av ++ (flatP l).drop (i * 7) = flatP (l.insertIdx i p) := by
  induction l generalizing i with
  | nil =>
    have : i = 0 := by simpa using h
    subst this
    simp [flatP]
  | cons x r ih =>
    have e : flatP (x :: r) = x.av ++ flatP r := by simp [flatP]
    have hx : x.av.length = 7 := rfl
    cases i with
    | zero => simp [flatP]
    | succ i =>
      have := ih i (by simpa using h)
      have e2 : flatP (x :: r.insertIdx i p) = x.av ++ flatP (r.insertIdx i p) := by simp [flatP]
      rw [List.insertIdx_succ_cons, e, e2, ← this, show (i + 1) * 7 = x.av.length + i * 7 by rw [hx]; omega, List.take_append, List.drop_append]
      simp [List.take_of_length_le, List.drop_eq_nil_of_le, hx]

theorem insP (H : List Lv) (P S : Lv) (v : AV) (l : List Pl) (i : Nat) (p : Pl) (b2 : Nat) (hv : (v = nilS ∧ l = []) ∨ ∃ j, v = .own H.length (j + P.length) 0 l.length 7 false ∧ S[j]? = some (.cells (flatP l)) ∧ b2 ≠ j) (hb2 : S[b2]? = some (.cells p.av))
    (hi : i ≤ l.length) (hlen : l.length ≤ 100000) {K : AV → Lv → Prop} (hK : ∀ j' S', S'[j']? = some (.cells (flatP (l.insertIdx i p))) → K (.own H.length (j' + P.length) 0 (l.length + 1) 7 false) (P ++ S')) :
    @gO (callW G 62 [v, .int .i64 i, .own H.length (b2 + P.length) 0 1 7 false] H (P ++ S)) ⟨K⟩ := by
  refine gO_ex (show G.ex 62 = some (exIns 7 64) from rfl) ?_
  have hp7 : p.av.length = 7 := rfl
  have e2 : elems H (P ++ S) (.own H.length (b2 + P.length) 0 1 7 false) = some [p.av] := by
    simp only [elems, getB_pre, hb2]
    simp [chunk, hp7]
    rfl
  rcases hv with ⟨rfl, rfl⟩ | ⟨j, rfl, hj, hne⟩
  · have h0 : i = 0 := by simpa using hi
    subst h0
    have e : exIns 7 64 62 [nilS, .int .i64 (0 : Nat), .own H.length (b2 + P.length) 0 1 7 false] H (P ++ S) = some (.own H.length (S.length + P.length) 0 1 7 false, P ++ (S ++ [.cells p.av])) := by
      simp only [exIns, e2]
      simp [nilS, elems, appV, hp7, Nat.add_comm]
    rw [e]
    exact hK S.length _ (by simp [flatP])
  · have hfl := flatP_len l
    have e1 : elems H (P ++ S) (.own H.length (j + P.length) 0 l.length 7 false) = some (l.map Pl.av) := by
      simp only [elems, getB_pre, hj]
      simp [hfl, chunkP l _ rfl]
    have hjl := (List.getElem?_eq_some_iff.1 hj).1
    have hset : (P ++ S).set (j + P.length) .dead = P ++ S.set j .dead := by
      rw [List.set_append_right _ _ (by omega)]
      congr 2
      omega
    have e : exIns 7 64 62 [.own H.length (j + P.length) 0 l.length 7 false, .int .i64 (i : Nat), .own H.length (b2 + P.length) 0 1 7 false] H (P ++ S) = some (.own H.length (S.length + P.length) 0 (l.length + 1) 7 false, P ++ (S.set j .dead ++ [.cells (flatP (l.insertIdx i p))])) := by
      simp only [exIns, e1, e2]
      have hc1 : l.length + 1 ≤ 9223372036854775807 := by omega
      have hc2 : (l.length + 1) * 64 ≤ 140737488355328 := by omega
      simp only [List.length_map, List.length_cons, List.length_nil, Nat.zero_add, hc1, hc2, List.all_cons, List.all_nil, hp7, decide_true, Bool.and_self, and_self, and_true, Int.toNat_natCast]
      rw [if_pos (by simp)]
      by_cases hil : i = l.length
      · subst hil
        simp only [if_true]
        have hm : ¬ ((l.length + 1) * 7 ≤ l.length * 7) := by omega
        simp only [appV, ne_eq, not_true_eq_false, if_false, reduceCtorEq, Bool.false_eq_true, getB_pre, hj, Nat.zero_add, List.length_cons, List.length_nil, hfl, hm, if_true, setB, List.length_append, true_and]
        rw [if_pos (by omega), hset]
        have := flatP_ins l l.length (Nat.le_refl _) p
        rw [List.take_of_length_le (by omega), List.drop_eq_nil_of_le (by omega)] at this
        have hfm : (l.map Pl.av).flatten = flatP l := rfl
        simp [hfm, Nat.add_comm]
        simp [flatP]
      · have hlt : i < l.length := by omega
        rw [if_neg hil]
        simp only [getB_pre, hj]
        rw [if_pos ⟨trivial, trivial, hlt, hfl, fun h => hne (by have := h.2; omega)⟩, hset]
        have := flatP_ins l i hi p
        simp [← this, Nat.add_comm]
    rw [e]
    exact hK S.length _ (by simp)

theorem insP9 (H : List Lv) (c0 c1 c2 c3 c4 c5 c6 c7 c8 : AB) (S : Lv) (v : AV) (l : List Pl) (i : Nat) (p : Pl) (b2 : Nat) (hv : (v = nilS ∧ l = []) ∨ ∃ j, v = .own H.length (j + 9) 0 l.length 7 false ∧ S[j]? = some (.cells (flatP l)) ∧ b2 ≠ j) (hb2 : S[b2]? = some (.cells p.av))
    (hi : i ≤ l.length) (hlen : l.length ≤ 100000) {K : AV → Lv → Prop} (hK : ∀ j' S' n', n' = l.length + 1 → S'[j']? = some (.cells (flatP (l.insertIdx i p))) → K (.own H.length (j' + 9) 0 n' 7 false) (c0 :: c1 :: c2 :: c3 :: c4 :: c5 :: c6 :: c7 :: c8 :: S')) :
    @gO (callW G 62 [v, .int .i64 i, .own H.length (b2 + 9) 0 1 7 false] H (c0 :: c1 :: c2 :: c3 :: c4 :: c5 :: c6 :: c7 :: c8 :: S)) ⟨K⟩ :=
  insP H [c0, c1, c2, c3, c4, c5, c6, c7, c8] S v l i p b2 hv hb2 hi hlen (fun j' S' h => hK j' S' _ rfl h)

theorem hear14_new (H : List Lv) (L : Lv) (d : Dbs) (port g : Int) (h1 : 0 ≤ port) (h2 : port < 64) (i : Nat) (hi : i ≤ d.l.length) (hp : posP d.l port g = i) (hh : hasP d.l port g = false)
    (hlen : d.l.length ≤ 2000) (hlim : ¬ d.limit ≤ d.l.length) (hmono : Mono (cmpP port g) d.l) (hb : ∀ p ∈ d.l, p.mb.m.b = false) : ∃ fl : SM × SM, (fl.1.b = false ∧ fl.2.b = false) ∧
    pcall (callW G) H L 14 [.agg d.av, .int .i64 port, .agg [.int .u8 22, .int .i64 0, .int .u8 0, .int .u32 g, .bool false, .int .u8 0, .int .u8 0, nilS, nilS]] =
      some (.tup [.agg (Dbs.av { d with m := fl.1, l := d.l.insertIdx i { port := port, v1 := 0, v2 := d.keep, mb := { g := g, ex := true, left := d.keep, m := fl.2, srcs := [] } } }), nilS, .int .i64 0]) := by
  refine pcall_of_wp_ex rfl rfl (by simp [Dbs.av, nilS]) (by simp [yieldF]) ?_
  have h36 := fun H L => place36_c H L d port g (by omega) hmono
  have h42 := fun H L => of42_c H L ⟨port, 0, 0, ⟨g, false, 0, ⟨true, false, true⟩, []⟩⟩
  have h44 := fun H L => heard44_ex H L d.keep d.last ⟨port, 0, 0, ⟨g, false, 0, ⟨true, false, true⟩, []⟩⟩ (by simp) g
  simp only [Dbs.av, hp, hh] at h36
  simp [Pl.av, nilS] at h42 h44
  obtain ⟨F, hF⟩ := Classical.axiomOfChoice (fun H => Classical.axiomOfChoice (h44 H))
  have hF1 := fun H L => (hF H L).1
  have hF2 := fun H L => (hF H L).2
  simp [f14r0, f14r1, f14r3, f14r4, f14r5, f14r6, f14r7, f14r9, f14r10, nilS, Dbs.av, isPort27_c, h1, h2]
  refine gO_call rfl rfl ?_
  simp [f29r0, f29r1, f29r2, f29r3, nilS, h42, h36]
  simp [f29r5, hF2]
  generalize hfl : F (L :: H) _ = fl
  have hflb : fl.b = false := hfl ▸ hF1 _ _
  clear hfl hF2 h44
  have h42' := fun H L v1 v2 ex left m => of42_c H L ⟨port, v1, v2, ⟨g, ex, left, m, []⟩⟩
  have h39 := fun H L ex left m => msome_c H L ⟨g, ex, left, m, []⟩
  simp [Pl.av, Mb.av] at h42' h39
  simp [f29r6, h39, hlim, f29r8, f29r9]
  refine gO_call rfl rfl ?_
  simp [f31r0, f29r10]
  refine gO_call rfl rfl ?_
  simp [f46r0, f46r1, h42', h36, f46r2]
  refine clone61_c (L :: H) _ d.m d.l (by omega) (fun v S hv => ?_)
  have hlay : v.lay = some [v] := by
    rcases hv with ⟨rfl, _⟩ | ⟨j, rfl, _⟩ <;> rfl
  simp [f46r3, h39, f46r4]
  refine insP9 (L :: H) _ _ _ _ _ _ _ _ _ (S ++ [.cells [.int .i64 port, .int .i64 0, .int .i64 d.keep, .int .u32 g, .bool true, .int .i64 d.keep, .sl fl []]]) v d.l i ⟨port, 0, d.keep, ⟨g, true, d.keep, fl, []⟩⟩ S.length (by
    rcases hv with hv | ⟨j, rfl, hj⟩
    · exact .inl hv
    · have hjl := (List.getElem?_eq_some_iff.1 hj).1
      exact .inr ⟨j, rfl, by rw [List.getElem?_append_left hjl]; exact hj, by omega⟩) (by simp [Pl.av]) hi (by omega) (fun j' S' n' hn' hj' => ?_)
  simp [f46r9, f29r11]
  refine gLoop_step ?_
  have h32 := fun c0 c1 c2 a0 a1 a2 a3 a4 a5 n R => load32_c (L :: H) c0 c1 c2 a0 a1 a2 a3 a4 a5 n R
  simp at h32
  simp [f29l0, f29r12, f14r19, h32]
  refine ⟨⟨false, false, false⟩, fl, ⟨rfl, hflb⟩, ?_⟩
  obtain ⟨l', hl'⟩ : ∃ l', l' = d.l.insertIdx i ⟨port, 0, d.keep, ⟨g, true, d.keep, fl, []⟩⟩ := ⟨_, rfl⟩
  have hll : l'.length = d.l.length + 1 := by rw [hl', List.length_insertIdx_of_le_length hi]
  have hch := chunkP l' n' (hn'.trans hll.symm)
  have hlf : (flatP l').length = n' * 7 := by rw [flatP_len, hll, hn']
  have hfz := fun M => freezeP (L :: H) M 3 l' (fun p hp => by
    rw [hl'] at hp
    rcases (List.mem_insertIdx hi).1 hp with rfl | hp
    · exact hflb
    · exact hb p hp)
  rw [hj', ← hl']
  simp [hch, hlf, hfz, Dbs.av, nilS, ← hl']

end Go.Ev.S
