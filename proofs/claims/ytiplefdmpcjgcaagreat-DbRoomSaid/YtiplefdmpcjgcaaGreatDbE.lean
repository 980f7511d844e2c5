/- A group hears that all of it is wanted. -/
import Derived.Test.YtiplefdmpcjgcaaGreatDbC

/- What a router knows of a group hears that all of it is wanted. -/
namespace Go.Ev.S
open Go Go.Ev

theorem gO_app_fresh {H : List Lv} {L : Lv} {sz bytes : Nat} {m : SM} {xs : List (List AV)} {K : AV → Lv → Prop} (hy : ∀ y ∈ xs, y.length = sz)
    (hn : xs.length ≤ 9223372036854775807) (hb : xs.length * bytes ≤ 140737488355328) (hs : 0 < sz)
    (hK : ∀ v S j, v = .own H.length (L.length + j) 0 xs.length sz false → S[j]? = some (.cells xs.flatten) → K v (L ++ S)) :
    @gO (appX H (L ++ [.cells []]) sz bytes (.own H.length L.length 0 0 sz false) (.sl m xs)) ⟨K⟩ := by
  have hall : xs.all (fun c => decide (c.length = sz)) = true := by
    simp only [List.all_eq_true, decide_eq_true_eq]; exact hy
  have e1 : elems H (L ++ [.cells []]) (.own H.length L.length 0 0 sz false) = some [] := by
    simp [elems, getB, chunk]
  have e2 : elems H (L ++ [.cells []]) (.sl m xs) = some xs := rfl
  unfold appX
  rw [e1, e2]
  simp only [List.length_nil, Nat.zero_add, hn, hb, hall, and_self, if_true]
  by_cases h0 : xs = []
  · subst h0
    have e : appV H (L ++ [.cells []]) sz (.own H.length L.length 0 0 sz false) [] [] = some (.own H.length L.length 0 0 sz false, L ++ [.cells []]) := by simp [appV]
    rw [e]
    exact hK _ [.cells []] 0 rfl rfl
  · have hxl : 0 < xs.length := by cases xs with
      | nil => exact absurd rfl h0
      | cons _ _ => simp
    have hm : ¬ xs.length * sz ≤ 0 := by have := Nat.mul_pos hxl hs; omega
    have e : appV H (L ++ [.cells []]) sz (.own H.length L.length 0 0 sz false) [] xs = some (.own H.length (L.length + 1) 0 xs.length sz false, L ++ [.dead, .cells xs.flatten]) := by
      simp [appV, h0, getB, setB]
      omega
    rw [e]
    exact hK _ [.dead, .cells xs.flatten] 1 rfl rfl

theorem pcall_of_wp_ex {α : Type} {V : α → AV} {P : α → Prop} {f : Nat} {vs : List Nat} {code : C} {res : List RV} {args : List AV} {H : List Lv} {L : Lv} (hx : G.ex f = none) (hf : G.fn f = some ⟨vs, code, res⟩) (hb : allM (borrow H L depth) args = some args) (hy : f ≠ yieldF)
    (h : @gC G (L :: H) code (start vs args) [] ⟨@vRet (L :: H) res ⟨fun r M => ∃ a, P a ∧ freeze (L :: H) M depth r = some (V a)⟩⟩) : ∃ a, P a ∧ pcall (callW G) H L f args = some (V a) := by
  obtain ⟨r, M, h1, a, h2, h3⟩ := call_of_wp hx hf h
  refine ⟨a, h2, ?_⟩
  unfold pcall
  rw [if_neg hy, hb]
  simp only [h1, h3]

set_option maxRecDepth 20000 in
theorem len64_zero (H : List Lv) (L : Lv) : pcall (callW G) H L 141 [.int .u64 0] = some (.int .i64 0) := by
  refine pcall_of_wp rfl rfl (by simp) (by simp [yieldF]) ?_
  simp [f141r0, f141r1, f141r4, f141r7]
  rw [f141r10]
  have h0 : IntKind.u8.wrap 0 = 0 := by decide
  have h1 : IntKind.i64.wrap 0 = 0 := by decide
  simp [h0, h1]

theorem len126_zero (H : List Lv) (L : Lv) : pcall (callW G) H L 126 [.int .u64 0] = some (.int .i64 0) := by
  refine pcall_of_wp rfl rfl (by simp) (by simp [yieldF]) ?_
  simp [f126r0, f126r1, f126r2, len64_zero]

theorem make78_nil (H : List Lv) (L : Lv) : pcall (callW G) H L 78 [nilS] = some nilS := by
  refine pcall_of_wp rfl rfl (by simp [nilS]) (by simp [yieldF]) ?_
  simp [f78r0, f78r1, nilS]
  refine gO_call rfl rfl ?_
  simp [f101r0, f101r1]
  refine gO_call rfl rfl ?_
  simp [f100r0, f100r1, nilS]
  refine gO_call rfl rfl ?_
  simp [f114r0, f114r1, nilS]
  refine gO_call rfl rfl ?_
  simp [f124r0, f124r1, nilS]
  refine gC_range rfl (by simp [yieldF]) ?_
  refine gO_call rfl rfl ?_
  simp [f116r0]
  refine gLoop_step ?_
  simp [f116l0, f116r1, f124r4, f100r2]
  refine gO_call rfl rfl ?_
  have h0 : IntKind.u64.wrap 0 = 0 := by decide
  simp [f115r0, f115r1, h0, len126_zero]
  refine gO_call rfl rfl ?_
  simp [f125r0, f125r1]
  refine gLoop_step ?_
  have h2 : IntKind.i64.wrap 0 = 0 := by decide
  simp [f125l0, f125r2, f125r3, f125r4, h2]
  refine gO_call rfl rfl ?_
  have h1 : IntKind.i64.wrap 1 = 1 := by decide
  simp [f132r0, h1]
  refine gLoop_step ?_
  simp [f132l1, f132r1]
  simp [f100r3]
  refine gO_call rfl rfl ?_
  simp [f99r0, f99r1, f99r2]
  rfl

theorem clone79_c (H : List Lv) (L : Lv) (m : SM) (l : List Hd) (hlen : l.length ≤ 100000) {K : AV → Lv → Prop}
    (hK : ∀ v S, ((v = nilS ∧ l = []) ∨ ∃ j, v = .own H.length (L.length + j) 0 l.length 2 false ∧ S[j]? = some (.cells (flatH l))) → K v (L ++ S)) :
    @gO (callW G 79 [.sl m (l.map Hd.av)] H L) ⟨K⟩ := by
  refine gO_call rfl rfl ?_
  obtain ⟨z, b, c⟩ := m
  by_cases h0 : z = true ∧ l = []
  · obtain ⟨rfl, rfl⟩ := h0
    simp [f79r0, f79r1, f79r2, nilS]
    have := hK nilS [] (.inl ⟨rfl, rfl⟩)
    simpa [nilS] using this
  · have h1 : (z && l.isEmpty) = false := by
      cases z <;> cases l <;> simp at h0 ⊢
    simp [f79r0, f79r1, f79r3, nilS, h1]
    refine gO_app_fresh (fun y hy => ?_) (by simp; omega) (by simp; omega) (by omega) (fun v S j h2 h3 => ?_)
    · simp only [List.mem_map] at hy
      obtain ⟨h, _, rfl⟩ := hy
      rfl
    · subst h2
      simp
      exact hK _ S (.inr ⟨j, rfl, h3⟩)

theorem minusL_nil : ∀ l : List Int, minusL [] l = []
  | [] => rfl
  | y :: b => by
    have := minusL_nil b
    unfold minusL at this ⊢
    rw [mergeL_r, this]
    rfl

theorem hasU_nil (a : Int) : hasU [] a = false := rfl

theorem except92_nil (H : List Lv) (R : Lv) (c0 c1 c2 c3 : AB) (g : Int) (ex : Bool) (left : Int) (vS : AV) (keep last : Int) (vA : AV) (l : List Hd) (asks : List Ak) (hW : Wk H R vS l vA asks) (hlen : l.length ≤ 1000) (x : Int) {K : AV → Lv → Prop}
    (hK : ∀ vS' R', Wk H R' vS' [] vA asks → K (.tup []) (c0 :: c1 :: c2 :: c3 :: wkC g true keep vS' keep last nilS vA :: R')) :
    @gO (callW G 92 [.ptr H.length 4 0, .int .i64 x] H (c0 :: c1 :: c2 :: c3 :: wkC g ex left vS keep last nilS vA :: R)) ⟨K⟩ := by
  refine gO_call rfl rfl ?_
  have h95 := all95_c H R c0 c1 c2 c3 g ex left vS keep last nilS vA l hW.own hlen
  have h97 := fun H L fb => minus97_c H L ⟨true, false, true⟩ fb [] (l.map (·.a)) (by simp; omega)
  have e : (l.filter fun h => hasU [] h.a) = [] := by simp [hasU_nil]
  simp [wkC, nilS, minusL_nil] at h95 h97
  simp [f92r0, f92r1, wkC, nilS, h95, h97]
  refine only105_c H R c0 c1 c2 c3 g ex left vS keep last nilS vA l asks hW ⟨true, false, true⟩ [] .nil (by simp) hlen (fun vS' R' hW' => ?_)
  rw [e] at hW'
  simp [f92r2, wkC]
  refine gO_call rfl rfl ?_
  simp [f91r0, nilM]
  refine gLoop_step ?_
  simp [f91l0, f91r1, f92r3]
  exact hK _ _ hW'

theorem isEx74_nil (H : List Lv) (R : Lv) (c0 c1 c2 c3 : AB) (g : Int) (ex : Bool) (left : Int) (vS : AV) (keep last : Int) (vA : AV) (l : List Hd) (asks : List Ak) (hW : Wk H R vS l vA asks) (hlen : l.length ≤ 1000) {K : AV → Lv → Prop}
    (hK : ∀ vS' R', Wk H R' vS' [] vA asks → K (.tup []) (c0 :: c1 :: c2 :: c3 :: wkC g true keep vS' keep last nilS vA :: R')) :
    @gO (callW G 74 [.ptr H.length 4 0] H (c0 :: c1 :: c2 :: c3 :: wkC g ex left vS keep last nilS vA :: R)) ⟨K⟩ := by
  refine gO_call rfl rfl ?_
  cases ex with
  | true =>
    simp [f74r0, f74r1, f74r2, wkC]
    refine except92_nil H R c0 c1 c2 c3 g _ left vS keep last vA l asks hW hlen _ (fun vS' R' hW' => ?_)
    simp
    exact hK _ _ hW'
  | false =>
    simp [f74r0, f74r1, f74r2, wkC]
    refine except92_nil H R c0 c1 c2 c3 g _ left vS keep last vA l asks hW hlen _ (fun vS' R' hW' => ?_)
    simp
    exact hK _ _ hW'

theorem hear59_ex (H : List Lv) (L : Lv) (keep last : Int) (m : Mb) (hlen : m.srcs.length ≤ 1000) : ∃ fl : SM, fl.b = false ∧
    pcall (callW G) H L 59 [.agg [.int .i64 keep, .int .i64 last], .agg m.av, .int .u8 2, nilS] = some (.tup [.agg [.int .u32 m.g, .bool true, .int .i64 keep, .sl fl []], nilS, .int .i64 0]) := by
  refine pcall_of_wp_ex rfl rfl (by simp [Mb.av, nilS]) (by simp [yieldF]) ?_
  obtain ⟨g, ex, left, fl', l⟩ := m
  simp only at hlen
  have h78 := make78_nil
  simp [nilS] at h78
  simp [f59r0, f59r1, f59r2, f59r3, f59r5, f59r6, Mb.av, h78, nilS]
  refine clone79_c _ _ _ _ (by omega) (fun v S hv => ?_)
  have hlay : v.lay = some [v] := by
    rcases hv with ⟨rfl, _⟩ | ⟨j, rfl, _⟩ <;> rfl
  simp [hlay, f59r7]
  refine isEx74_nil (L :: H) S _ _ _ _ g ex left v keep last nilS l [] ⟨?_, .inl ⟨rfl, rfl⟩, fun b n n' h => by simp [nilS]⟩ hlen (fun vS' R' hW' => ?_)
  · rcases hv with ⟨rfl, rfl⟩ | ⟨j, rfl, hj⟩
    · exact .inl ⟨rfl, rfl⟩
    · exact .inr ⟨j, [], by simp [Nat.add_comm], by simpa using hj⟩
  · rcases hW'.own with ⟨rfl, _⟩ | ⟨b, tail, rfl, hb⟩
    · simp [f59r8, f59r10, wkC, nilS]
    · simp [f59r8, f59r10, wkC, nilS]
      refine ⟨⟨false, false, false⟩, rfl, ?_⟩
      simp [hb, allM]

end Go.Ev.S

/- A place hears that all of a group is wanted. -/
namespace Go.Ev.S
open Go Go.Ev

theorem gO_pex {α : Type} {V : α → AV} {P : α → Prop} {o : Option AV} {M : Lv} {K : AV → Lv → Prop} (h : ∃ a, P a ∧ o = some (V a)) (hK : ∀ a, P a → K (V a) M) : @gO (Option.map (fun v => (v, M)) o) ⟨K⟩ := by
  obtain ⟨a, h1, rfl⟩ := h
  exact hK a h1

theorem heard44_ex (H : List Lv) (L : Lv) (keep last : Int) (p : Pl) (hlen : p.mb.srcs.length ≤ 1000) (g' : Int) : ∃ fl : SM, fl.b = false ∧
    pcall (callW G) H L 44 [.agg [.int .i64 keep, .int .i64 last], .agg p.av, .agg [.int .u8 2, .int .u32 g', nilS]] = some (.tup [.agg [.int .u32 p.mb.g, .bool true, .int .i64 keep, .sl fl []], nilS, .int .i64 0]) := by
  refine pcall_of_wp_ex rfl rfl (by simp [Pl.av, nilS]) (by simp [yieldF]) ?_
  have h59 : ∀ H L, ∃ fl : SM, fl.b = false ∧ pcall (callW G) H L 59 [.agg [.int .i64 keep, .int .i64 last], .agg p.mb.av, .int .u8 2, nilS] = some (.tup [.agg [.int .u32 p.mb.g, .bool true, .int .i64 keep, .sl fl []], nilS, .int .i64 0]) := fun H L => hear59_ex H L keep last p.mb hlen
  simp only [Mb.av, nilS] at h59
  by_cases h1 : 0 < p.v1
  · simp [f44r0, f44r1, f44r2, f44r3, f44r5, f44r7, Pl.av, nilS, h1]
    refine gO_pex (h59 _ _) (fun fl hfl => ?_)
    simp [hfl]
    exact ⟨fl, hfl, rfl, rfl⟩
  · by_cases h2 : 0 < p.v2
    · simp [f44r0, f44r1, f44r2, f44r3, f44r5, f44r7, Pl.av, nilS, h1, h2]
      refine gO_pex (h59 _ _) (fun fl hfl => ?_)
      simp [hfl]
      exact ⟨fl, hfl, rfl, rfl⟩
    · simp [f44r0, f44r1, f44r2, f44r3, f44r5, f44r7, Pl.av, nilS, h1, h2]
      refine gO_pex (h59 _ _) (fun fl hfl => ?_)
      simp [hfl]
      exact ⟨fl, hfl, rfl, rfl⟩

theorem heard44_in (H : List Lv) (L : Lv) (keep last : Int) (p : Pl) (hv : 0 < p.v1) (hb : p.mb.m.b = false) (g' : Int) :
    pcall (callW G) H L 44 [.agg [.int .i64 keep, .int .i64 last], .agg p.av, .agg [.int .u8 3, .int .u32 g', nilS]] = some (.tup [.agg p.mb.av, nilS, .int .i64 0]) := by
  refine pcall_of_wp rfl rfl (by simp [Pl.av, nilS]) (by simp [yieldF]) ?_
  simp [f44r0, f44r1, f44r2, f44r4, Pl.av, Mb.av, nilS, hv, hb]

theorem of42_c (H : List Lv) (L : Lv) (p : Pl) : pcall (callW G) H L 42 [.agg p.av] = some (.agg [.int .i64 p.port, .int .u32 p.mb.g]) := by
  refine pcall_of_wp rfl rfl (by simp [Pl.av]) (by simp [yieldF]) ?_
  simp [f42r0, f42r1, Pl.av]

theorem isPort27_c (H : List Lv) (L : Lv) (n : Int) : pcall (callW G) H L 27 [.int .i64 n] = some (.bool (decide (0 ≤ n) && decide (n < 64))) := by
  refine pcall_of_wp rfl rfl (by simp) (by simp [yieldF]) ?_
  by_cases h : 0 ≤ n <;> simp [f27r0, f27r1, h]

/-- The cells of a row of places. -/
def flatP (l : List Pl) : List AV := (l.map Pl.av).flatten

theorem flatP_len (l : List Pl) : (flatP l).length = l.length * 7 := by
  have := flat_len (sz := 7) (l.map Pl.av) (fun x hx => by
    simp only [List.mem_map] at hx
    obtain ⟨h, _, rfl⟩ := hx
    rfl)
  simpa [flatP] using this

theorem flatP_put (l : List Pl) (i : Nat) (h : i < l.length) (p : Pl) : put (flatP l) (i * 7) p.av = flatP (l.set i p) := by
  induction l generalizing i with
  | nil => simp at h
  | cons x r ih =>
    have e : flatP (x :: r) = x.av ++ flatP r := by simp [flatP]
    cases i with
    | zero =>
      rw [e]
      simp [put, flatP, Pl.av]
    | succ i =>
      have := ih i (by simpa using h)
      have e2 : flatP (x :: r.set i p) = x.av ++ flatP (r.set i p) := by simp [flatP]
      rw [e, List.set_cons_succ, e2, ← this]
      have hx : x.av.length = 7 := rfl
      have hp : p.av.length = 7 := rfl
      simp only [put]
      rw [show (i + 1) * 7 = x.av.length + i * 7 by rw [hx]; omega, List.take_append, List.append_assoc, Nat.add_assoc, List.drop_append]
      simp [List.take_of_length_le, List.drop_eq_nil_of_le, hx]

theorem clone61_c (H : List Lv) (L : Lv) (m : SM) (l : List Pl) (hlen : l.length ≤ 100000) {K : AV → Lv → Prop}
    (hK : ∀ v S, ((v = nilS ∧ l = []) ∨ ∃ j, v = .own H.length (j + L.length) 0 l.length 7 false ∧ S[j]? = some (.cells (flatP l))) → K v (L ++ S)) :
    @gO (callW G 61 [.sl m (l.map Pl.av)] H L) ⟨K⟩ := by
  refine gO_call rfl rfl ?_
  obtain ⟨z, b, c⟩ := m
  by_cases h0 : z = true ∧ l = []
  · obtain ⟨rfl, rfl⟩ := h0
    simp [f61r0, f61r1, f61r2, nilS]
    have := hK nilS [] (.inl ⟨rfl, rfl⟩)
    simpa [nilS] using this
  · have h1 : (z && l.isEmpty) = false := by
      cases z <;> cases l <;> simp at h0 ⊢
    simp [f61r0, f61r1, f61r3, nilS, h1]
    refine gO_app_fresh (fun y hy => ?_) (by simp; omega) (by simp; omega) (by omega) (fun v S j h2 h3 => ?_)
    · simp only [List.mem_map] at hy
      obtain ⟨h, _, rfl⟩ := hy
      rfl
    · subst h2
      simp
      exact hK _ S (.inr ⟨j, by rw [Nat.add_comm], h3⟩)

theorem load32_c (H : List Lv) (c0 c1 c2 : AB) (a0 a1 a2 a3 a4 a5 : AV) (n : Int) (R : Lv) :
    pcall (callW G) H (c0 :: c1 :: c2 :: .cells [a0, a1, a2, a3, a4, a5, .int .i64 n] :: R) 32 [.ptr H.length 3 6] = some (.int .i64 n) := by
  unfold pcall
  rw [if_neg (by simp [yieldF])]
  simp [allM, callW_ex _ _ _ _ (show G.ex 32 = some exLoad from rfl), exLoad, getB]

theorem chunkP (l : List Pl) (n : Nat) (h : n = l.length) : chunk 7 n (flatP l) = l.map Pl.av := by
  subst h
  have := chunk_flat (sz := 7) (l.map Pl.av) (fun x hx => by
    simp only [List.mem_map] at hx
    obtain ⟨h, _, rfl⟩ := hx
    rfl)
  simpa [flatP] using this

theorem freezeP (H : List Lv) (M : Lv) (d : Nat) (l : List Pl) (h : ∀ p ∈ l, p.mb.m.b = false) : allM (allM (freezeC H M d)) (l.map Pl.av) = some (l.map Pl.av) := by
  refine allM_id _ (fun x hx => allM_id x (fun a ha => ?_))
  simp only [List.mem_map] at hx
  obtain ⟨p, hp, rfl⟩ := hx
  exact freezeC_pl p (h p hp) a ha

theorem hear14_v1 (H : List Lv) (L : Lv) (d : Dbs) (port g : Int) (h1 : 0 ≤ port) (h2 : port < 64) (i : Nat) (hi : i < d.l.length) (hp : posP d.l port g = i) (hh : hasP d.l port g = true)
    (hlen : d.l.length ≤ 2000) (hs : d.l[i].mb.srcs.length ≤ 1000) (hmono : Mono (cmpP port g) d.l) (hpp : d.l[i].port = port) (hpg : d.l[i].mb.g = g) (hb : ∀ p ∈ d.l, p.mb.m.b = false) : ∃ fl : SM × SM, (fl.1.b = false ∧ fl.2.b = false) ∧
    pcall (callW G) H L 14 [.agg d.av, .int .i64 port, .agg [.int .u8 18, .int .i64 0, .int .u8 0, .int .u32 g, .bool false, .int .u8 0, .int .u8 0, nilS, nilS]] =
      some (.tup [.agg (Dbs.av { d with m := fl.1, l := d.l.set i { port := d.l[i].port, v1 := d.keep, v2 := d.l[i].v2, mb := { g := d.l[i].mb.g, ex := true, left := d.keep, m := fl.2, srcs := [] } } }), nilS, .int .i64 0]) := by
  refine pcall_of_wp_ex rfl rfl (by simp [Dbs.av, nilS]) (by simp [yieldF]) ?_
  have h36 := fun H L => place36_c H L d port g (by omega) hmono
  have h42 := fun H L => of42_c H L ⟨port, 0, 0, ⟨g, false, 0, ⟨true, false, true⟩, []⟩⟩
  have h44 := fun H L => heard44_ex H L d.keep d.last d.l[i] hs g
  simp only [Dbs.av, hp, hh] at h36
  simp [Pl.av, nilS] at h42 h44
  obtain ⟨F, hF⟩ := Classical.axiomOfChoice (fun H => Classical.axiomOfChoice (h44 H))
  have hF1 := fun H L => (hF H L).1
  have hF2 := fun H L => (hF H L).2
  simp [f14r0, f14r1, f14r3, f14r4, f14r5, f14r6, f14r7, f14r8, nilS, Dbs.av, isPort27_c, h1, h2]
  refine gO_call rfl rfl ?_
  simp [f29r0, f29r1, f29r2, f29r3, f29r4, nilS, h42, h36, Pl.av, hi]
  simp [f29r5, hF2]
  generalize hfl : F (L :: H) _ = fl
  have hflb : fl.b = false := hfl ▸ hF1 _ _
  clear hfl hF2 h44
  have h42' := fun H L v1 v2 ex left m => of42_c H L ⟨port, v1, v2, ⟨g, ex, left, m, []⟩⟩
  have h39 := fun H L ex left m => msome_c H L ⟨g, ex, left, m, []⟩
  simp [Pl.av, Mb.av] at h42' h39
  simp [f29r6, f29r8, f29r9]
  refine gO_call rfl rfl ?_
  simp [f30r0, f29r10]
  refine gO_call rfl rfl ?_
  simp [f46r0, f46r1, hpp, hpg, h42', h36, f46r2]
  refine clone61_c (L :: H) _ d.m d.l (by omega) (fun v S hv => ?_)
  rcases hv with ⟨_, e⟩ | ⟨j, rfl, hj⟩
  · exfalso; rw [e] at hi; simp at hi
  have hjl := (List.getElem?_eq_some_iff.1 hj).1
  have hjg : ∀ h : j < S.length, S[j] = .cells (flatP d.l) := fun h => (List.getElem?_eq_some_iff.1 hj).2
  have hfl := flatP_len d.l
  have hle : i * 7 + 7 ≤ d.l.length * 7 := by omega
  simp [f46r3, f46r5, h39, f46r6, hi, hj, hjl, hjg, hfl, hle]
  have hput := flatP_put d.l i hi ⟨port, d.keep, d.l[i].v2, ⟨g, true, d.keep, fl, []⟩⟩
  simp [Pl.av] at hput
  simp [f46r9, hput, f29r11]
  refine gLoop_step ?_
  have h32 := fun c0 c1 c2 a0 a1 a2 a3 a4 a5 n R => load32_c (L :: H) c0 c1 c2 a0 a1 a2 a3 a4 a5 n R
  simp at h32
  simp [f29l0, f29r12, f14r19, h32]
  refine ⟨⟨false, false, false⟩, fl, ⟨rfl, hflb⟩, ?_⟩
  obtain ⟨l', hl'⟩ : ∃ l', l' = d.l.set i ⟨port, d.keep, d.l[i].v2, ⟨g, true, d.keep, fl, []⟩⟩ := ⟨_, rfl⟩
  have hch := chunkP l' d.l.length (by rw [hl']; simp)
  have hlf : (flatP l').length = d.l.length * 7 := by rw [flatP_len, hl']; simp
  have hfz := fun M => freezeP (L :: H) M 3 l' (fun p hp => by
    rw [hl'] at hp
    rcases List.mem_or_eq_of_mem_set hp with hp | rfl
    · exact hb p hp
    · exact hflb)
  rw [List.getElem?_set_self hjl, ← hl']
  simp [hch, hlf, hfz, hpp, hpg, Dbs.av, nilS, ← hl']

theorem hear14_v2 (H : List Lv) (L : Lv) (d : Dbs) (port g : Int) (h1 : 0 ≤ port) (h2 : port < 64) (i : Nat) (hi : i < d.l.length) (hp : posP d.l port g = i) (hh : hasP d.l port g = true)
    (hlen : d.l.length ≤ 2000) (hs : d.l[i].mb.srcs.length ≤ 1000) (hmono : Mono (cmpP port g) d.l) (hpp : d.l[i].port = port) (hpg : d.l[i].mb.g = g) (hb : ∀ p ∈ d.l, p.mb.m.b = false) : ∃ fl : SM × SM, (fl.1.b = false ∧ fl.2.b = false) ∧
    pcall (callW G) H L 14 [.agg d.av, .int .i64 port, .agg [.int .u8 22, .int .i64 0, .int .u8 0, .int .u32 g, .bool false, .int .u8 0, .int .u8 0, nilS, nilS]] =
      some (.tup [.agg (Dbs.av { d with m := fl.1, l := d.l.set i { port := d.l[i].port, v1 := d.l[i].v1, v2 := d.keep, mb := { g := d.l[i].mb.g, ex := true, left := d.keep, m := fl.2, srcs := [] } } }), nilS, .int .i64 0]) := by
  refine pcall_of_wp_ex rfl rfl (by simp [Dbs.av, nilS]) (by simp [yieldF]) ?_
  have h36 := fun H L => place36_c H L d port g (by omega) hmono
  have h42 := fun H L => of42_c H L ⟨port, 0, 0, ⟨g, false, 0, ⟨true, false, true⟩, []⟩⟩
  have h44 := fun H L => heard44_ex H L d.keep d.last d.l[i] hs g
  simp only [Dbs.av, hp, hh] at h36
  simp [Pl.av, nilS] at h42 h44
  obtain ⟨F, hF⟩ := Classical.axiomOfChoice (fun H => Classical.axiomOfChoice (h44 H))
  have hF1 := fun H L => (hF H L).1
  have hF2 := fun H L => (hF H L).2
  simp [f14r0, f14r1, f14r3, f14r4, f14r5, f14r6, f14r7, f14r9, f14r10, nilS, Dbs.av, isPort27_c, h1, h2]
  refine gO_call rfl rfl ?_
  simp [f29r0, f29r1, f29r2, f29r3, f29r4, nilS, h42, h36, Pl.av, hi]
  simp [f29r5, hF2]
  generalize hfl : F (L :: H) _ = fl
  have hflb : fl.b = false := hfl ▸ hF1 _ _
  clear hfl hF2 h44
  have h42' := fun H L v1 v2 ex left m => of42_c H L ⟨port, v1, v2, ⟨g, ex, left, m, []⟩⟩
  have h39 := fun H L ex left m => msome_c H L ⟨g, ex, left, m, []⟩
  simp [Pl.av, Mb.av] at h42' h39
  simp [f29r6, f29r8, f29r9]
  refine gO_call rfl rfl ?_
  simp [f31r0, f29r10]
  refine gO_call rfl rfl ?_
  simp [f46r0, f46r1, hpp, hpg, h42', h36, f46r2]
  refine clone61_c (L :: H) _ d.m d.l (by omega) (fun v S hv => ?_)
  rcases hv with ⟨_, e⟩ | ⟨j, rfl, hj⟩
  · exfalso; rw [e] at hi; simp at hi
  have hjl := (List.getElem?_eq_some_iff.1 hj).1
  have hjg : ∀ h : j < S.length, S[j] = .cells (flatP d.l) := fun h => (List.getElem?_eq_some_iff.1 hj).2
  have hfl := flatP_len d.l
  have hle : i * 7 + 7 ≤ d.l.length * 7 := by omega
  simp [f46r3, f46r5, h39, f46r6, hi, hj, hjl, hjg, hfl, hle]
  have hput := flatP_put d.l i hi ⟨port, d.l[i].v1, d.keep, ⟨g, true, d.keep, fl, []⟩⟩
  simp [Pl.av] at hput
  simp [f46r9, hput, f29r11]
  refine gLoop_step ?_
  have h32 := fun c0 c1 c2 a0 a1 a2 a3 a4 a5 n R => load32_c (L :: H) c0 c1 c2 a0 a1 a2 a3 a4 a5 n R
  simp at h32
  simp [f29l0, f29r12, f14r19, h32]
  refine ⟨⟨false, false, false⟩, fl, ⟨rfl, hflb⟩, ?_⟩
  obtain ⟨l', hl'⟩ : ∃ l', l' = d.l.set i ⟨port, d.l[i].v1, d.keep, ⟨g, true, d.keep, fl, []⟩⟩ := ⟨_, rfl⟩
  have hch := chunkP l' d.l.length (by rw [hl']; simp)
  have hlf : (flatP l').length = d.l.length * 7 := by rw [flatP_len, hl']; simp
  have hfz := fun M => freezeP (L :: H) M 3 l' (fun p hp => by
    rw [hl'] at hp
    rcases List.mem_or_eq_of_mem_set hp with hp | rfl
    · exact hb p hp
    · exact hflb)
  rw [List.getElem?_set_self hjl, ← hl']
  simp [hch, hlf, hfz, hpp, hpg, Dbs.av, nilS, ← hl']

end Go.Ev.S

/- A place hears a leave. -/
namespace Go.Ev.S
open Go Go.Ev

theorem hear14_leave (H : List Lv) (L : Lv) (d : Dbs) (port g : Int) (h1 : 0 ≤ port) (h2 : port < 64) (i : Nat) (hi : i < d.l.length) (hp : posP d.l port g = i) (hh : hasP d.l port g = true)
    (hlen : d.l.length ≤ 2000) (hs : d.l[i].mb.srcs.length ≤ 1000) (hmono : Mono (cmpP port g) d.l) (hpp : d.l[i].port = port) (hpg : d.l[i].mb.g = g) (hb : ∀ p ∈ d.l, p.mb.m.b = false) (hv : 0 < d.l[i].v1) (hsome : (d.l[i].mb.ex || decide (0 < d.l[i].mb.srcs.length)) = true) : ∃ fl : SM, fl.b = false ∧
    pcall (callW G) H L 14 [.agg d.av, .int .i64 port, .agg [.int .u8 23, .int .i64 0, .int .u8 0, .int .u32 g, .bool false, .int .u8 0, .int .u8 0, nilS, nilS]] =
      some (.tup [.agg (Dbs.av { d with m := fl }), nilS, .int .i64 0]) := by
  refine pcall_of_wp_ex rfl rfl (by simp [Dbs.av, nilS]) (by simp [yieldF]) ?_
  have h36 := fun H L => place36_c H L d port g (by omega) hmono
  have h42 := fun H L => of42_c H L ⟨port, 0, 0, ⟨g, false, 0, ⟨true, false, true⟩, []⟩⟩
  have hbi := hb _ (List.getElem_mem hi)
  have h44 := fun H L => heard44_in H L d.keep d.last d.l[i] hv hbi g
  simp only [Dbs.av, hp, hh] at h36
  simp [Pl.av, Mb.av, nilS] at h42 h44
  simp [f14r0, f14r1, f14r3, f14r4, f14r5, f14r6, f14r7, f14r9, f14r11, f14r12, nilS, Dbs.av, isPort27_c, h1, h2]
  refine gO_call rfl rfl ?_
  simp [f29r0, f29r1, f29r2, f29r3, f29r4, nilS, h42, h36, Pl.av, hi]
  have h42' := fun H L => of42_c H L d.l[i]
  have h39 := fun H L => msome_c H L d.l[i].mb
  simp only [hsome] at h39
  simp [Pl.av, Mb.av] at h42' h39
  simp only [hpp, hpg] at h42' h39 h44
  simp [f29r5, h44, f29r6, f29r8, f29r9, hpp, hpg]
  refine gO_call rfl rfl ?_
  simp [f29r10, hpp, hpg]
  refine gO_call rfl rfl ?_
  simp [f46r0, f46r1, hpp, hpg, h42', h36, f46r2]
  refine clone61_c (L :: H) _ d.m d.l (by omega) (fun v S hv => ?_)
  rcases hv with ⟨_, e⟩ | ⟨j, rfl, hj⟩
  · exfalso; rw [e] at hi; simp at hi
  have hjl := (List.getElem?_eq_some_iff.1 hj).1
  have hjg : ∀ h : j < S.length, S[j] = .cells (flatP d.l) := fun h => (List.getElem?_eq_some_iff.1 hj).2
  have hfl := flatP_len d.l
  have hle : i * 7 + 7 ≤ d.l.length * 7 := by omega
  simp [f46r3, f46r5, h39, f46r6, hi, hjl, hjg, hfl, hle]
  have hput := flatP_put d.l i hi d.l[i]
  rw [List.set_getElem_self] at hput
  simp [Pl.av, hpp, hpg] at hput
  simp [f46r9, hput, f29r11]
  refine gLoop_step ?_
  have h32 := fun c0 c1 c2 a0 a1 a2 a3 a4 a5 n R => load32_c (L :: H) c0 c1 c2 a0 a1 a2 a3 a4 a5 n R
  simp at h32
  simp [f29l0, f29r12, f14r19, h32]
  refine ⟨⟨false, false, false⟩, rfl, ?_⟩
  have hch := chunkP d.l d.l.length rfl
  have hlf : (flatP d.l).length = d.l.length * 7 := by rw [flatP_len]
  have hfz := fun M => freezeP (L :: H) M 3 d.l hb
  rw [List.getElem?_set_self hjl]
  simp [hch, hlf, hfz, hpp, hpg, Dbs.av, nilS]

end Go.Ev.S
