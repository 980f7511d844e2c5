/- Sets of sources; what works on a group. -/
import Derived.Test.YtiplefdmpcjgcaaGreatDbB

/- Sets of sources: the merge. -/
namespace Go.Ev.S
open Go Go.Ev

def avU (n : Int) : List AV := [.int .u32 n]

/-- What a merge of two rising rows keeps. -/
def thoseL (p : Bool → Bool → Bool) : Nat → List Int → List Int → List Int
  | 0, _, _ => []
  | k + 1, a, b =>
    match a, b with
    | [], [] => []
    | x :: a, [] => (if p true false then [x] else []) ++ thoseL p k a []
    | [], y :: b => (if p false true then [y] else []) ++ thoseL p k [] b
    | x :: a, y :: b =>
      if x < y then (if p true false then [x] else []) ++ thoseL p k a (y :: b)
      else if y < x then (if p false true then [y] else []) ++ thoseL p k (x :: a) b
      else (if p true true then [y] else []) ++ thoseL p k a b

theorem inter108_c (H : List Lv) (L : Lv) (x y : Bool) : pcall (callW G) H L 108 [.agg [.bool x, .bool y]] = some (.bool (x && y)) := by
  refine pcall_of_wp rfl rfl (by simp) (by simp [yieldF]) ?_
  cases x <;> simp [f108r0, f108r1]

theorem minus112_c (H : List Lv) (L : Lv) (x y : Bool) : pcall (callW G) H L 112 [.agg [.bool x, .bool y]] = some (.bool (x && !y)) := by
  refine pcall_of_wp rfl rfl (by simp) (by simp [yieldF]) ?_
  cases x <;> simp [f112r0, f112r1]

theorem thoseL_fuel (p : Bool → Bool → Bool) : ∀ (k : Nat) (a b : List Int), a.length + b.length ≤ k → thoseL p (k + 1) a b = thoseL p k a b := by
  intro k
  induction k with
  | zero =>
    intro a b h
    have h1 : a = [] := List.eq_nil_of_length_eq_zero (by omega)
    have h2 : b = [] := List.eq_nil_of_length_eq_zero (by omega)
    subst h1 h2
    rfl
  | succ k ih =>
    intro a b h
    match a, b with
    | [], [] => rfl
    | x :: a, [] => rw [thoseL, ih a [] (by simp at h ⊢; omega)]; rfl
    | [], y :: b => rw [thoseL, ih [] b (by simp at h ⊢; omega)]; rfl
    | x :: a, y :: b =>
      simp only [List.length_cons] at h
      rw [thoseL, ih a (y :: b) (by simp; omega), ih (x :: a) b (by simp; omega), ih a b (by omega)]
      rfl

def mergeL (p : Bool → Bool → Bool) (a b : List Int) : List Int := thoseL p (a.length + b.length) a b

theorem mergeL_l (p : Bool → Bool → Bool) (x : Int) (a : List Int) : mergeL p (x :: a) [] = (if p true false then [x] else []) ++ mergeL p a [] := rfl
theorem mergeL_r (p : Bool → Bool → Bool) (y : Int) (b : List Int) : mergeL p [] (y :: b) = (if p false true then [y] else []) ++ mergeL p [] b := by
  simp only [mergeL, List.length_nil, List.length_cons, Nat.zero_add]
  rfl
theorem mergeL_lt (p : Bool → Bool → Bool) {x y : Int} (a b : List Int) (h : x < y) : mergeL p (x :: a) (y :: b) = (if p true false then [x] else []) ++ mergeL p a (y :: b) := by
  simp only [mergeL, List.length_cons]
  rw [show a.length + 1 + (b.length + 1) = (a.length + (b.length + 1)) + 1 by omega, thoseL, if_pos h]
theorem mergeL_gt (p : Bool → Bool → Bool) {x y : Int} (a b : List Int) (h : y < x) : mergeL p (x :: a) (y :: b) = (if p false true then [y] else []) ++ mergeL p (x :: a) b := by
  simp only [mergeL, List.length_cons]
  rw [show a.length + 1 + (b.length + 1) = (a.length + 1 + b.length) + 1 by omega, thoseL, if_neg (by omega), if_pos h]
theorem mergeL_eq (p : Bool → Bool → Bool) (x : Int) (a b : List Int) : mergeL p (x :: a) (x :: b) = (if p true true then [x] else []) ++ mergeL p a b := by
  simp only [mergeL, List.length_cons]
  rw [show a.length + 1 + (b.length + 1) = (a.length + b.length + 1) + 1 by omega, thoseL, if_neg (by omega), if_neg (by omega), thoseL_fuel p _ a b (Nat.le_refl _)]

theorem mergeL_len (p : Bool → Bool → Bool) : ∀ (k : Nat) (a b : List Int), (thoseL p k a b).length ≤ k := by
  intro k
  induction k with
  | zero => intro a b; simp [thoseL]
  | succ k ih =>
    intro a b
    match a, b with
    | [], [] => simp [thoseL]
    | x :: a, [] => have := ih a []; simp only [thoseL, List.length_append]; split <;> simp <;> omega
    | [], y :: b => have := ih [] b; simp only [thoseL, List.length_append]; split <;> simp <;> omega
    | x :: a, y :: b =>
      have h1 := ih a (y :: b)
      have h2 := ih (x :: a) b
      have h3 := ih a b
      simp only [thoseL]
      repeat' split
      all_goals (simp; omega)

theorem those_loop (H : List Lv) (pf : Nat) (p : Bool → Bool → Bool) (hmd : md pf = .pure) (hpf : pf < 100000)
    (hp : ∀ H L x y, pcall (callW G) H L pf [.agg [.bool x, .bool y]] = some (.bool (p x y))) {a0 a1 a2 a6 a8 a9 a12 a13 a14 a17 : AV} {Q : Ex → Tm → Lv → Prop} (tot : List Int) (hlen : tot.length ≤ 100000)
    {T0 : Tm} (hT : T0 = [(0, a0), (1, a1), (2, a2), (5, .ptr H.length 0 0), (6, a6), (7, .ptr H.length 1 0), (8, a8), (9, a9), (12, a12), (13, a13), (14, a14), (17, a17)])
    (q : ∀ v fa fb a4 a5 a11 a48 a55 a65 R, Acc H 5 R 1 v (tot.map avU) → Q (.exit 0) [(0, .yl H.length 4), (1, .ptr H.length 2 0), (2, .ptr H.length 3 0), (4, a4), (5, a5), (11, a11), (48, a48), (55, a55), (65, a65)]
      (.cells [.fn pf []] :: .cells [v] :: .cells [.sl fa []] :: .cells [.sl fb []] :: .loop [13, 14] T0 ((C.reg false f107r3).seq (C.reg false f107r4)) (C.block 1 ((C.reg false f107r5).seq (C.cond (Od.t 17) (C.reg false f107r6) C.skip))) :: R)) :
    ∀ (n : Nat) (a b : List Int) (fa fb : SM) (v a4 a5 a11 a48 a55 a65 : AV) (R : Lv) (out : List Int), n = a.length + b.length → Acc H 5 R 1 v (out.map avU) → tot = out ++ mergeL p a b → out.length + (a.length + b.length) ≤ 100000 →
    @gLoop G H f131l0 [(0, .yl H.length 4), (1, .ptr H.length 2 0), (2, .ptr H.length 3 0), (4, a4), (5, a5), (11, a11), (48, a48), (55, a55), (65, a65)]
      (.cells [.fn pf []] :: .cells [v] :: .cells [.sl fa (a.map avU)] :: .cells [.sl fb (b.map avU)] :: .loop [13, 14] T0 ((C.reg false f107r3).seq (C.reg false f107r4)) (C.block 1 ((C.reg false f107r5).seq (C.cond (Od.t 17) (C.reg false f107r6) C.skip))) :: R) ⟨Q⟩ := by
  intro n
  induction n using Nat.strongRecOn with
  | _ n ih =>
    intro a b fa fb v a4 a5 a11 a48 a55 a65 R out hn hacc htot hol
    refine gLoop_step ?_
    -- what a round does with an element
    have round : ∀ (x : Int) (s1 s2 : Bool) (a' b' : List Int) (fa' fb' : SM) (v4 v11 v48 v55 v65 : AV) (R' : Lv) (K : AV → Lv → Prop),
        Acc H 5 R' 1 v (out.map avU) →
        (∀ v' R'', Acc H 5 R'' 1 v' ((out ++ if p s1 s2 then [x] else []).map avU) → K (.bool true) (.cells [.fn pf []] :: .cells [v'] :: .cells [.sl fa' (a'.map avU)] :: .cells [.sl fb' (b'.map avU)] :: .loop [13, 14] T0 ((C.reg false f107r3).seq (C.reg false f107r4)) (C.block 1 ((C.reg false f107r5).seq (C.cond (Od.t 17) (C.reg false f107r6) C.skip))) :: R'')) →
        @gO (callW G yieldF [.yl H.length 4, .int .u32 x, .agg [.bool s1, .bool s2]] H (.cells [.fn pf []] :: .cells [v] :: .cells [.sl fa' (a'.map avU)] :: .cells [.sl fb' (b'.map avU)] :: .loop [13, 14] T0 ((C.reg false f107r3).seq (C.reg false f107r4)) (C.block 1 ((C.reg false f107r5).seq (C.cond (Od.t 17) (C.reg false f107r6) C.skip))) :: R')) ⟨K⟩ := by
      intro x s1 s2 a' b' fa' fb' v4 v11 v48 v55 v65 R' K hacc' hK
      refine gO_yield rfl rfl (by rfl) (by rfl) ?_
      subst hT
      cases hps : p s1 s2 with
      | false =>
        simp [-md, bindP, f107r3, f107r4, f107r5, hmd, hp, hps, yldQ]
        exact hK v _ (by simpa [hps] using hacc'.grow _)
      | true =>
        have hl := hacc'.lay
        simp [-md, bindP, f107r3, f107r4, f107r5, f107r6, hmd, hp, hps]
        refine gO_app5 (hacc'.grow _) (ys := [avU x]) (by simp [avU]) (by simp [avU]) (by simp) (by omega) (by simp; omega) (by simp; omega) (fun v' R2 k1 k2 k3 => ?_)
        have hl := k1.lay
        simp [hl, yldQ]
        exact hK v' _ (by simpa [hps] using k1)
    have tk : ∀ l : List Int, List.take l.length (l.map avU) = l.map avU := fun l => List.take_of_length_le (by simp)
    have w0 : IntKind.i64.wrap 0 = 0 := wrap_i (by omega) (by omega)
    match a, b with
    | [], [] =>
      have e : tot = out := by rw [htot]; simp [mergeL, thoseL]
      subst e
      simp [f131l0, f131r0, w0]
      exact q _ _ _ _ _ _ _ _ _ _ hacc
    | x :: a, [] =>
      simp only [List.length_cons, List.length_nil, Nat.add_zero] at hn hol
      have w1 : IntKind.i64.wrap ((a.length : Int) + 1) = (a.length : Int) + 1 := wrap_i (by omega) (by omega)
      have w2 : (0 : Int) < (a.length : Int) + 1 := by omega
      have w3 : ¬ (a.length : Int) + 1 = 0 := by omega
      simp [f131l0, f131r0, f131r1, f131r2, f131r3, f131r4, f131r5, f131r7, w1, w2, w3, tk, avU]
      refine round x true false a [] _ _ v v v v v _ _ (hacc.grow _) (fun v' R2 k1 => ?_)
      simp
      exact gAgain_intro (ih (a.length + 0) (by omega) a [] _ _ _ _ _ _ _ _ _ _ _ rfl k1 (by rw [htot, mergeL_l, List.append_assoc]) (by simp; split <;> simp <;> omega))
    | [], y :: b =>
      simp only [List.length_cons, List.length_nil, Nat.zero_add] at hn hol
      have w1 : IntKind.i64.wrap ((b.length : Int) + 1) = (b.length : Int) + 1 := wrap_i (by omega) (by omega)
      have w2 : (0 : Int) < (b.length : Int) + 1 := by omega
      have w3 : ¬ (b.length : Int) + 1 = 0 := by omega
      simp [f131l0, f131r0, f131r1, f131r2, f131r3, f131r5, f131r6, f131r7, w1, w2, w3, tk, avU]
      refine round y false true [] b _ _ v v v v v _ _ (hacc.grow _) (fun v' R2 k1 => ?_)
      simp
      exact gAgain_intro (ih (0 + b.length) (by omega) [] b _ _ _ _ _ _ _ _ _ _ _ rfl k1 (by rw [htot, mergeL_r, List.append_assoc]) (by simp; split <;> simp <;> omega))
    | x :: a, y :: b =>
      simp only [List.length_cons] at hn hol
      have w1 : IntKind.i64.wrap ((a.length : Int) + 1 + ((b.length : Int) + 1)) = (a.length : Int) + 1 + ((b.length : Int) + 1) := wrap_i (by omega) (by omega)
      have w2 : (0 : Int) < (a.length : Int) + 1 + ((b.length : Int) + 1) := by omega
      have w3 : ¬ (a.length : Int) + 1 = 0 := by omega
      have w4 : ¬ (b.length : Int) + 1 = 0 := by omega
      have w5 : (0 : Int) < (a.length : Int) + 1 := by omega
      have w6 : (0 : Int) < (b.length : Int) + 1 := by omega
      by_cases h1 : x < y
      · have h2 : x ≤ y := by omega
        have h3 : ¬ y ≤ x := by omega
        simp [f131l0, f131r0, f131r1, f131r2, f131r3, f131r4, f131r5, f131r7, w1, w2, w3, w4, w5, w6, h2, h3, tk, avU]
        refine round x true false a (y :: b) _ _ v v v v v _ _ (hacc.grow _) (fun v' R2 k1 => ?_)
        simp
        exact gAgain_intro (ih (a.length + (b.length + 1)) (by omega) a (y :: b) _ _ _ _ _ _ _ _ _ _ _ rfl k1 (by rw [htot, mergeL_lt p a b h1, List.append_assoc]) (by simp; split <;> simp <;> omega))
      · by_cases h2 : y < x
        · have h3 : y ≤ x := by omega
          have h4 : ¬ x ≤ y := by omega
          simp [f131l0, f131r0, f131r1, f131r2, f131r3, f131r5, f131r6, f131r7, w1, w2, w3, w4, w5, w6, h3, h4, tk, avU]
          refine round y false true (x :: a) b _ _ v v v v v _ _ (hacc.grow _) (fun v' R2 k1 => ?_)
          simp
          exact gAgain_intro (ih (a.length + 1 + b.length) (by omega) (x :: a) b _ _ _ _ _ _ _ _ _ _ _ rfl k1 (by rw [htot, mergeL_gt p a b h2, List.append_assoc]) (by simp; split <;> simp <;> omega))
        · have e : x = y := by omega
          subst e
          simp [f131l0, f131r0, f131r1, f131r2, f131r3, f131r4, f131r5, f131r6, f131r7, w1, w2, w3, w4, w5, w6, tk, avU]
          refine round x true true a b _ _ v v v v v _ _ (hacc.grow _) (fun v' R2 k1 => ?_)
          simp
          exact gAgain_intro (ih (a.length + b.length) (by omega) a b _ _ _ _ _ _ _ _ _ _ _ rfl k1 (by rw [htot, mergeL_eq, List.append_assoc]) (by simp; split <;> simp <;> omega))

theorem those107_c (H : List Lv) (L : Lv) (fa fb : SM) (a b : List Int) (pf : Nat) (p : Bool → Bool → Bool) (hmd : md pf = .pure) (hpf : pf < 100000)
    (hp : ∀ H L x y, pcall (callW G) H L pf [.agg [.bool x, .bool y]] = some (.bool (p x y))) (hlen : a.length + b.length ≤ 100000) :
    pcall (callW G) H L 107 [.sl fa (a.map avU), .sl fb (b.map avU), .fn pf []] = some (.sl (if (mergeL p a b).isEmpty then nilM else ownM) ((mergeL p a b).map avU)) := by
  refine pcall_of_wp rfl rfl (by simp) (by simp [yieldF]) ?_
  simp [f107r0, f107r1, f107r2]
  refine gO_call rfl rfl ?_
  simp [f123r0, f123r1]
  refine gC_range rfl (by simp [yieldF]) ?_
  refine gO_call rfl rfl ?_
  simp
  have hml := mergeL_len p (a.length + b.length) a b
  refine those_loop (L :: H) pf p hmd hpf hp (mergeL p a b) (by simp only [mergeL]; omega) rfl (fun v fa fb a4 a5 a11 a48 a55 a65 R hacc => ?_) _ a b fa fb nilS _ _ _ _ _ _ [] [] rfl (.inl ⟨rfl, rfl⟩) (by simp) (by simp; omega)
  have hfr := fun c0 c1 c2 c3 c4 => Acc.freeze (P := [c0, c1, c2, c3, c4]) (d := 5) hacc (fun x hx a ha => by
    simp only [List.mem_map] at hx
    obtain ⟨n, _, rfl⟩ := hx
    simp only [avU, List.mem_cons, List.not_mem_nil, or_false] at ha
    subst ha
    exact freezeC_int _ _)
  simp only [List.cons_append, List.nil_append] at hfr
  simp [rngQ, f107r7, hfr]

def interL (a b : List Int) : List Int := mergeL (fun x y => x && y) a b
def minusL (a b : List Int) : List Int := mergeL (fun x y => x && !y) a b

theorem inter94_c (H : List Lv) (L : Lv) (fa fb : SM) (a b : List Int) (hlen : a.length + b.length ≤ 100000) :
    pcall (callW G) H L 94 [.sl fa (a.map avU), .sl fb (b.map avU)] = some (.sl (if (interL a b).isEmpty then nilM else ownM) ((interL a b).map avU)) := by
  refine pcall_of_wp rfl rfl (by simp) (by simp [yieldF]) ?_
  have h := fun H L => those107_c H L fa fb a b 108 (fun x y => x && y) rfl (by omega) inter108_c hlen
  simp [f94r0, f94r1, h, interL, nilM, ownM]
  split <;> rfl

theorem minus97_c (H : List Lv) (L : Lv) (fa fb : SM) (a b : List Int) (hlen : a.length + b.length ≤ 100000) :
    pcall (callW G) H L 97 [.sl fa (a.map avU), .sl fb (b.map avU)] = some (.sl (if (minusL a b).isEmpty then nilM else ownM) ((minusL a b).map avU)) := by
  refine pcall_of_wp rfl rfl (by simp) (by simp [yieldF]) ?_
  have h := fun H L => those107_c H L fa fb a b 112 (fun x y => x && !y) rfl (by omega) minus112_c hlen
  simp [f97r0, f97r1, h, minusL, nilM, ownM]
  split <;> rfl

end Go.Ev.S

/- Sets of sources: is one in it? -/
namespace Go.Ev.S
open Go Go.Ev

theorem nan130_c (H : List Lv) (L : Lv) (a : Int) : pcall (callW G) H L 130 [.int .u32 a] = some (.bool false) := by
  refine pcall_of_wp rfl rfl (by simp) (by simp [yieldF]) ?_
  simp [f130r0, f130r1]

theorem less129_c (H : List Lv) (L : Lv) (a b : Int) : pcall (callW G) H L 129 [.int .u32 a, .int .u32 b] = some (.bool (decide (a < b))) := by
  refine pcall_of_wp rfl rfl (by simp) (by simp [yieldF]) ?_
  have h := nan72_c
  simp [f129r0, f129r1, h]

def cmpU (a x : Int) : Int := cmp3 x a
def posU (l : List Int) (a : Int) : Nat := posC (cmpU a) l
def hasU (l : List Int) (a : Int) : Bool := match l[posU l a]? with
  | some x => decide (x = a)
  | none => false

theorem bs122_loop (H : List Lv) (m : SM) (l : List Int) (a : Int) (hlen : l.length ≤ 140737488355328) (hmono : Mono (cmpU a) l) {a4 a5 a9 a15 a27 : AV} {L : Lv} {Q : Ex → Tm → Lv → Prop}
    (q : ∀ a8 a9 a15 a27, Q (.exit 0) [(0, .sl m (l.map avU)), (1, .int .u32 a), (4, a4), (5, a5), (6, .int .i64 l.length), (7, .int .i64 (posU l a)), (8, a8), (9, a9), (15, a15), (27, a27)] L) :
    @gLoop G H f122l0 [(0, .sl m (l.map avU)), (1, .int .u32 a), (4, a4), (5, a5), (6, .int .i64 l.length), (7, .int .i64 0), (8, .int .i64 l.length), (9, a9), (15, a15), (27, a27)] L ⟨Q⟩ := by
  refine gLoop_inv (fun k T M => ∃ (lo hi : Nat) (a9 a15 a27 : AV), k = hi - lo ∧ lo ≤ hi ∧ hi ≤ l.length ∧ M = L ∧
    T = [(0, .sl m (l.map avU)), (1, .int .u32 a), (4, a4), (5, a5), (6, .int .i64 l.length), (7, .int .i64 lo), (8, .int .i64 hi), (9, a9), (15, a15), (27, a27)] ∧
    (∀ j (h : j < l.length), j < lo → cmpU a l[j] < 0) ∧ (∀ j (h : j < l.length), hi ≤ j → ¬ cmpU a l[j] < 0)) l.length ?_ ?_
  · exact ⟨0, l.length, a9, a15, a27, by simp, by simp, by simp, rfl, rfl, by simp, fun j h1 h2 => by omega⟩
  rintro k T M ⟨lo, hi, a9, a15, a27, rfl, hlh, hhl, rfl, rfl, hl, hh⟩
  by_cases h1 : lo < hi
  · obtain ⟨mid, hmid⟩ : ∃ mid, mid = (lo + hi) / 2 := ⟨_, rfl⟩
    have hm : mid < l.length := by omega
    have w1 : IntKind.i64.wrap ((lo : Int) + hi) = (lo : Int) + hi := wrap_i (by omega) (by omega)
    have w2 : IntKind.i64.wrap ((IntKind.u64.wrap ((lo : Int) + hi)).fdiv (2 ^ min 1 IntKind.u64.bits)) = mid := by
      rw [IntWalk.u64_in _ (by omega)]
      have : ((lo : Int) + hi).fdiv (2 ^ min 1 IntKind.u64.bits) = mid := by
        show ((lo : Int) + hi).fdiv 2 = mid
        rw [Int.fdiv_eq_ediv_of_nonneg _ (by omega)]
        omega
      rw [this]
      exact wrap_i (by omega) (by omega)
    have w3 : IntKind.i64.wrap ((mid : Int) + 1) = (mid : Int) + 1 := wrap_i (by omega) (by omega)
    have hc := fun H L => less129_c H L l[mid] a
    by_cases hlt : l[mid] < a
    · have hlt' : cmpU a l[mid] < 0 := cmp3_neg.2 hlt
      simp [f122l0, f122r3, f122r4, f122r5, f122r6, avU, h1, w1, w2, w3, hm, hc, hlt, shI]
      exact gAgain_intro ⟨hi - (mid + 1), by omega, mid + 1, hi, _, _, _, rfl, by omega, hhl, rfl, rfl, fun j hj hjm => by
        by_cases e : j = mid
        · subst e; exact hlt'
        · exact hmono j mid hj hm (by omega) hlt', hh⟩
    · have hlt' : ¬ cmpU a l[mid] < 0 := fun h => hlt (cmp3_neg.1 h)
      simp [f122l0, f122r3, f122r4, f122r5, f122r7, avU, h1, w1, w2, hm, hc, hlt, shI]
      exact gAgain_intro ⟨mid - lo, by omega, lo, mid, _, _, _, rfl, by omega, by omega, rfl, rfl, hl, fun j hj hjm => by
        by_cases e : mid = j
        · subst e; exact hlt'
        · exact fun hx => hlt' (hmono mid j hm hj (by omega) hx)⟩
  · have : lo = hi := by omega
    subst this
    simp [f122l0, f122r3]
    have hp : posU l a = lo := pos_unique hhl hl (fun h => hh lo h (Nat.le_refl _))
    rw [← hp]
    exact q _ _ _ _

theorem bs122_c (H : List Lv) (L : Lv) (m : SM) (l : List Int) (a : Int) (hlen : l.length ≤ 140737488355328) (hmono : Mono (cmpU a) l) :
    pcall (callW G) H L 122 [.sl m (l.map avU), .int .u32 a] = some (.tup [.int .i64 (posU l a), .bool (hasU l a)]) := by
  refine pcall_of_wp rfl rfl (by simp) (by simp [yieldF]) ?_
  simp [f122r0, f122r1, f122r2]
  refine bs122_loop (L :: H) m l a hlen hmono (fun a8 a9 a15 a27 => ?_)
  by_cases h1 : posU l a < l.length
  · by_cases h2 : l[posU l a] = a
    · simp [f122r8, avU, h1, h2, hasU]
    · simp [f122r8, avU, h1, h2, hasU, nan130_c]
  · simp [f122r8, h1, hasU]

theorem has106_c (H : List Lv) (L : Lv) (m : SM) (l : List Int) (a : Int) (hlen : l.length ≤ 140737488355328) (hmono : Mono (cmpU a) l) :
    pcall (callW G) H L 106 [.sl m (l.map avU), .int .u32 a] = some (.bool (hasU l a)) := by
  refine pcall_of_wp rfl rfl (by simp) (by simp [yieldF]) ?_
  have hb := fun H L => bs122_c H L m l a hlen hmono
  simp [f106r0, f106r1, f106r2, hb]

theorem mono_U {l : List Int} (h : l.Pairwise (· < ·)) (a : Int) : Mono (cmpU a) l := by
  intro i j hi hj hij hc
  have := List.pairwise_iff_getElem.1 h i j hi hj hij
  simp only [cmpU, cmp3_neg] at hc ⊢
  omega

theorem hasU_iff {l : List Int} (h : l.Pairwise (· < ·)) (a : Int) : hasU l a = true ↔ a ∈ l := by
  constructor
  · intro hh
    unfold hasU at hh
    split at hh
    · rename_i x hx
      simp only [decide_eq_true_eq] at hh
      subst hh
      exact List.mem_of_getElem? hx
    · cases hh
  · intro hm
    obtain ⟨i, hi, rfl⟩ := List.getElem_of_mem hm
    have hp : posU l l[i] = i := by
      refine pos_unique (Nat.le_of_lt hi) (fun j hj hji => ?_) (fun _ => ?_)
      · have := List.pairwise_iff_getElem.1 h j i hj hi hji
        simp only [cmpU, cmp3_neg]
        exact this
      · simp only [cmpU, cmp3_neg]; omega
    simp only [hasU, hp, List.getElem?_eq_getElem hi]
    simp

end Go.Ev.S

/- What a router knows of a group, at work: the sources with, and without, time. -/
namespace Go.Ev.S
open Go Go.Ev

/-- The cells of a row of sources. -/
def flatH (l : List Hd) : List AV := (l.map Hd.av).flatten

theorem flatH_len (l : List Hd) : (flatH l).length = l.length * 2 := by
  have := flat_len (sz := 2) (l.map Hd.av) (fun x hx => by
    simp only [List.mem_map] at hx
    obtain ⟨h, _, rfl⟩ := hx
    rfl)
  simpa [flatH] using this

theorem flatH_drop (l : List Hd) (tail : List AV) : ∀ (i : Nat) (h : i < l.length), (flatH l ++ tail).drop (i * 2) = .int .u32 l[i].a :: .int .i64 l[i].left :: (flatH (l.drop (i + 1)) ++ tail) := by
  induction l with
  | nil => intro i h; simp at h
  | cons a r ih =>
    intro i h
    cases i with
    | zero => simp [flatH, Hd.av]
    | succ i =>
      have := ih i (by simpa using h)
      have e : (flatH (a :: r) ++ tail) = .int .u32 a.a :: .int .i64 a.left :: (flatH r ++ tail) := by simp [flatH, Hd.av]
      rw [e, show (i + 1) * 2 = i * 2 + 1 + 1 by omega, List.drop_succ_cons, List.drop_succ_cons, this]
      simp

/-- A slice of sources: nil; or a block of the level, behind its first five, with what may lie behind it. -/
def OwnH (H : List Lv) (R : Lv) (v : AV) (l : List Hd) : Prop :=
  (v = nilS ∧ l = []) ∨ ∃ b tail, v = .own H.length (b + 5) 0 l.length 2 false ∧ R[b]? = some (.cells (flatH l ++ tail))

def filtL (p : Int → Bool) (l : List Hd) : List Int := (l.filter fun h => p h.left).map (·.a)

theorem filtL_snoc (p : Int → Bool) (l : List Hd) (i : Nat) (h : i < l.length) : filtL p (l.take (i + 1)) = filtL p (l.take i) ++ (if p l[i].left then [l[i].a] else []) := by
  simp only [filtL, List.take_succ_eq_append_getElem h, List.filter_append, List.map_append]
  congr 1
  by_cases hp : p l[i].left <;> simp [hp]

theorem filtL_len (p : Int → Bool) (l : List Hd) : (filtL p l).length ≤ l.length := by
  simp only [filtL, List.length_map]
  exact List.length_filter_le _ _

theorem all110_c (H : List Lv) (L : Lv) (x : Int) : pcall (callW G) H L 110 [.int .i64 x] = some (.bool true) := by
  refine pcall_of_wp rfl rfl (by simp) (by simp [yieldF]) ?_
  simp [f110r0, f110r1]
theorem y111_c (H : List Lv) (L : Lv) (x : Int) : pcall (callW G) H L 111 [.int .i64 x] = some (.bool (decide (x = 0))) := by
  refine pcall_of_wp rfl rfl (by simp) (by simp [yieldF]) ?_
  simp [f111r0, f111r1]
theorem x113_c (H : List Lv) (L : Lv) (x : Int) : pcall (callW G) H L 113 [.int .i64 x] = some (.bool (decide (0 < x))) := by
  refine pcall_of_wp rfl rfl (by simp) (by simp [yieldF]) ?_
  simp [f113r0, f113r1]

theorem those109_loop (H : List Lv) (M L1 : Lv) (b : Nat) (tail : List AV) (l : List Hd) (hb : M[b]? = some (.cells (flatH l ++ tail))) (pf : Nat) (p : Int → Bool) (hmd : md pf = .pure) (hpf : pf < 100000) (hlen : l.length ≤ 1000)
    (hp : ∀ H L x, pcall (callW G) H L pf [.int .i64 x] = some (.bool (p x))) {a0 a4 a7 a15 a21 : AV} {Q : Ex → Tm → Lv → Prop}
    (q : ∀ v a7 a14 a15 a21 R, Acc (L1 :: M :: H) 0 R 1 v ((filtL p l).map avU) → Q (.exit 0) [(0, a0), (1, .fn pf []), (4, a4), (5, v), (7, a7), (12, .own H.length b 0 l.length 2 false), (13, .int .i64 l.length), (14, a14), (15, a15), (21, a21)] R) :
    @gLoop G (L1 :: M :: H) f109l0 [(0, a0), (1, .fn pf []), (4, a4), (5, nilS), (7, a7), (12, .own H.length b 0 l.length 2 false), (13, .int .i64 l.length), (14, .int .i64 0), (15, a15), (21, a21)] [] ⟨Q⟩ := by
  refine gLoop_inv (fun j T N => ∃ (i : Nat) (v a7 a15 a21 : AV), j = l.length - i ∧ i ≤ l.length ∧
    T = [(0, a0), (1, .fn pf []), (4, a4), (5, v), (7, a7), (12, .own H.length b 0 l.length 2 false), (13, .int .i64 l.length), (14, .int .i64 i), (15, a15), (21, a21)] ∧
    Acc (L1 :: M :: H) 0 N 1 v ((filtL p (l.take i)).map avU)) l.length ?_ ?_
  · exact ⟨0, nilS, a7, a15, a21, by simp, by simp, rfl, .inl ⟨rfl, by simp [filtL]⟩⟩
  rintro j T N ⟨i, v, a7, a15, a21, rfl, hi, rfl, hacc⟩
  by_cases h1 : i < l.length
  · have hw2 : IntKind.i64.wrap ((i : Int) + 1) = (i : Int) + 1 := wrap_i (by omega) (by omega)
    have hd := flatH_drop l tail i h1
    have hfl := flatH_len l
    have hle : i * 2 ≤ l.length * 2 + tail.length := by omega
    have hsn := filtL_snoc p l i h1
    have htl := filtL_len p (l.take i)
    have htk : (l.take i).length ≤ i := List.length_take_le _ _
    cases hpi : p l[i].left with
    | false =>
      simp [-md, f109l0, f109r3, f109r4, f109r5, f109r7, h1, hb, hd, hfl, hle, hmd, hp, hpi, hw2]
      refine gAgain_intro ⟨l.length - (i + 1), by omega, i + 1, _, _, _, _, rfl, by omega, rfl, ?_⟩
      rw [hsn]
      simpa [hpi] using hacc.grow _
    | true =>
      simp [-md, f109l0, f109r3, f109r4, f109r5, f109r6, f109r7, h1, hb, hd, hfl, hle, hmd, hp, hpi]
      refine gO_app0 (hacc.grow _) (ys := [avU l[i].a]) (by simp [avU]) (by simp [avU]) (by simp) (by omega) (by simp; omega) (by simp; omega) (fun v' R2 k1 k2 k3 => ?_)
      simp [hw2]
      refine gAgain_intro ⟨l.length - (i + 1), by omega, i + 1, _, _, _, _, rfl, by omega, rfl, ?_⟩
      rw [hsn]
      simpa [hpi] using k1
  · have h0 : i = l.length := by omega
    subst h0
    simp [f109l0, f109r3]
    rw [List.take_of_length_le (Nat.le_refl _)] at hacc
    exact q _ _ _ _ _ _ hacc

/-- The cells of what works on a group. -/
def wkC (g : Int) (ex : Bool) (left : Int) (vS : AV) (keep last : Int) (vB vA : AV) : AB := .cells [.int .u32 g, .bool ex, .int .i64 left, vS, .int .i64 keep, .int .i64 last, vB, vA]

theorem freeze0 {H : List Lv} {R : Lv} {v : AV} {l : List Int} (h : Acc H 0 R 1 v (l.map avU)) : freeze H R 6 v = some (.sl (if l.isEmpty then nilM else ownM) (l.map avU)) := by
  have := Acc.freeze (P := []) (d := 5) h (fun x hx a ha => by
    simp only [List.mem_map] at hx
    obtain ⟨n, _, rfl⟩ := hx
    simp only [avU, List.mem_cons, List.not_mem_nil, or_false] at ha
    subst ha
    exact freezeC_int _ _)
  simpa using this

theorem those109_c (H : List Lv) (L1 R : Lv) (c0 c1 c2 c3 : AB) (g : Int) (ex : Bool) (left : Int) (vS : AV) (keep last : Int) (vB vA : AV) (l : List Hd) (hS : OwnH H R vS l) (pf : Nat) (p : Int → Bool) (hmd : md pf = .pure) (hpf : pf < 100000) (hlen : l.length ≤ 1000)
    (hp : ∀ H L x, pcall (callW G) H L pf [.int .i64 x] = some (.bool (p x))) :
    pcall (callW G) ((c0 :: c1 :: c2 :: c3 :: wkC g ex left vS keep last vB vA :: R) :: H) L1 109 [.ptr H.length 4 0, .fn pf []] = some (.sl (if (filtL p l).isEmpty then nilM else ownM) ((filtL p l).map avU)) := by
  refine pcall_of_wp rfl rfl (by simp) (by simp [yieldF]) ?_
  rcases hS with ⟨rfl, rfl⟩ | ⟨b, tail, rfl, hb⟩
  · simp [f109r0, f109r1, f109r2, wkC, nilS]
    refine gLoop_step ?_
    simp [f109l0, f109r3, f109r8, filtL, nilM]
  · simp [f109r0, f109r1, f109r2, wkC]
    refine those109_loop H _ L1 (b + 5) tail l (by simpa using hb) pf p hmd hpf hlen hp (fun v a7 a14 a15 a21 R' hacc => ?_)
    have := freeze0 hacc
    simp only [List.isEmpty_iff] at this
    simp [f109r8]
    exact this

theorem all95_c (H : List Lv) (R : Lv) (c0 c1 c2 c3 : AB) (g : Int) (ex : Bool) (left : Int) (vS : AV) (keep last : Int) (vB vA : AV) (l : List Hd) (hS : OwnH H R vS l) (hlen : l.length ≤ 1000) :
    pcall (callW G) H (c0 :: c1 :: c2 :: c3 :: wkC g ex left vS keep last vB vA :: R) 95 [.ptr H.length 4 0] = some (.sl (if (l.map (·.a)).isEmpty then nilM else ownM) ((l.map (·.a)).map avU)) := by
  refine pcall_of_wp rfl rfl (by simp) (by simp [yieldF]) ?_
  have h := fun L1 => those109_c H L1 R c0 c1 c2 c3 g ex left vS keep last vB vA l hS 110 (fun _ => true) rfl (by omega) hlen (fun H L x => all110_c H L x)
  have e : filtL (fun _ => true) l = l.map (·.a) := by rw [filtL, List.filter_eq_self.2 (by simp)]
  rw [e] at h
  simp [f95r0, f95r1, h, nilM, ownM]
  split <;> rfl

def isY (x : Int) : Bool := decide (x = 0)
def isX (x : Int) : Bool := decide (0 < x)

theorem y96_c (H : List Lv) (R : Lv) (c0 c1 c2 c3 : AB) (g : Int) (ex : Bool) (left : Int) (vS : AV) (keep last : Int) (vB vA : AV) (l : List Hd) (hS : OwnH H R vS l) (hlen : l.length ≤ 1000) :
    pcall (callW G) H (c0 :: c1 :: c2 :: c3 :: wkC g ex left vS keep last vB vA :: R) 96 [.ptr H.length 4 0] = some (.sl (if (filtL isY l).isEmpty then nilM else ownM) ((filtL isY l).map avU)) := by
  refine pcall_of_wp rfl rfl (by simp) (by simp [yieldF]) ?_
  have h := fun L1 => those109_c H L1 R c0 c1 c2 c3 g ex left vS keep last vB vA l hS 111 isY rfl (by omega) hlen (fun H L x => y111_c H L x)
  simp [f96r0, f96r1, h, nilM, ownM]
  split <;> rfl

theorem x98_c (H : List Lv) (R : Lv) (c0 c1 c2 c3 : AB) (g : Int) (ex : Bool) (left : Int) (vS : AV) (keep last : Int) (vB vA : AV) (l : List Hd) (hS : OwnH H R vS l) (hlen : l.length ≤ 1000) :
    pcall (callW G) H (c0 :: c1 :: c2 :: c3 :: wkC g ex left vS keep last vB vA :: R) 98 [.ptr H.length 4 0] = some (.sl (if (filtL isX l).isEmpty then nilM else ownM) ((filtL isX l).map avU)) := by
  refine pcall_of_wp rfl rfl (by simp) (by simp [yieldF]) ?_
  have h := fun L1 => those109_c H L1 R c0 c1 c2 c3 g ex left vS keep last vB vA l hS 113 isX rfl (by omega) hlen (fun H L x => x113_c H L x)
  simp [f98r0, f98r1, h, nilM, ownM]
  split <;> rfl

end Go.Ev.S

/- What a router knows of a group, at work: only some sources stay. -/
namespace Go.Ev.S
open Go Go.Ev

structure Ak where
  g : Int
  m : SM
  srcs : List Int

def Ak.av (a : Ak) : List AV := [.int .u32 a.g, .sl a.m (a.srcs.map avU)]

/-- The sources, and what is asked, lie apart. -/
structure Wk (H : List Lv) (R : Lv) (vS : AV) (l : List Hd) (vA : AV) (asks : List Ak) : Prop where
  own : OwnH H R vS l
  acc : Acc H 5 R 2 vA (asks.map Ak.av)
  apart : ∀ b n n', vS = .own H.length (b + 5) 0 n 2 false → vA ≠ .own H.length (b + 5) 0 n' 2 false

theorem only121_old (H : List Lv) (M L1 : Lv) (j : Nat) (fb : SM) (bs : List Int) (hj : M[j]? = some (.cells [.sl fb (bs.map avU)])) (h : Hd) (hlen : bs.length ≤ 140737488355328) (hmono : Mono (cmpU h.a) bs) :
    pcall (callW G) (M :: H) L1 121 [.agg h.av, .ptr H.length j 0] = some (.bool (!hasU bs h.a)) := by
  refine pcall_of_wp rfl rfl (by simp [Hd.av]) (by simp [yieldF]) ?_
  have hh := fun H L => has106_c H L fb bs h.a hlen hmono
  simp [f121r0, f121r1, Hd.av, hj, hh]

theorem only121_cur (H : List Lv) (M : Lv) (j : Nat) (fb : SM) (bs : List Int) (hj : M[j]? = some (.cells [.sl fb (bs.map avU)])) (h : Hd) (hlen : bs.length ≤ 140737488355328) (hmono : Mono (cmpU h.a) bs) :
    pcall (callW G) H M 121 [.agg h.av, .ptr H.length j 0] = some (.bool (!hasU bs h.a)) := by
  refine pcall_of_wp rfl rfl (by simp [Hd.av]) (by simp [yieldF]) ?_
  have hh := fun H L => has106_c H L fb bs h.a hlen hmono
  simp [f121r0, f121r1, Hd.av, hj, hh]

/-- The first one that goes. -/
def firstGo (bs : List Int) (l : List Hd) : Nat := (l.takeWhile fun h => hasU bs h.a).length

theorem firstGo_unique {bs : List Int} : ∀ {l : List Hd} {i : Nat}, i ≤ l.length → (∀ j (h : j < l.length), j < i → hasU bs l[j].a = true) → (∀ h : i < l.length, hasU bs l[i].a = false) → firstGo bs l = i
  | [], i, h, _, _ => by simp at h; simp [firstGo, h]
  | a :: r, 0, _, _, h2 => by
    have := h2 (by simp)
    simp at this
    simp [firstGo, this]
  | a :: r, i + 1, h, h1, h2 => by
    have h0 := h1 0 (by simp) (by omega)
    simp at h0
    have := firstGo_unique (bs := bs) (l := r) (i := i) (by simpa using h) (fun j hj hji => by
      have := h1 (j + 1) (by simpa using hj) (by omega)
      rwa [List.getElem_cons_succ] at this) (fun hi => by
      have := h2 (by simpa using hi)
      rwa [List.getElem_cons_succ] at this)
    simp only [firstGo, List.takeWhile_cons, h0, if_true, List.length_cons]
    simp only [firstGo] at this
    omega

theorem index128_c (H : List Lv) (M : Lv) (j : Nat) (m fb : SM) (bs : List Int) (hj : M[j]? = some (.cells [.sl fb (bs.map avU)])) (l : List Hd) (hlen : bs.length ≤ 140737488355328) (hl : l.length ≤ 140737488355328) (hbs : bs.Pairwise (· < ·)) :
    pcall (callW G) H M 128 [.sl m (l.map Hd.av), .fn 121 [.ptr H.length j 0]] = some (.int .i64 (if firstGo bs l < l.length then (firstGo bs l : Int) else -1)) := by
  refine pcall_of_wp rfl rfl (by simp) (by simp [yieldF]) ?_
  simp [f128r0, f128r1]
  refine gLoop_inv (fun k T N => ∃ (i : Nat) (a5 a9 a16 : AV), k = l.length - i ∧ i ≤ l.length ∧
    T = [(0, .sl m (l.map Hd.av)), (1, .fn 121 [.ptr H.length j 0]), (4, .int .i64 0), (5, a5), (7, .int .i64 l.length), (8, .int .i64 i), (9, a9), (16, a16)] ∧
    (∀ k (h : k < l.length), k < i → hasU bs l[k].a = true)) l.length ?_ ?_
  · exact ⟨0, .un, .un, .un, by simp, by simp, rfl, by simp⟩
  rintro k T N ⟨i, a5, a9, a16, rfl, hi, rfl, hall⟩
  by_cases h1 : i < l.length
  · have hw2 : IntKind.i64.wrap ((i : Int) + 1) = (i : Int) + 1 := wrap_i (by omega) (by omega)
    have hc := only121_old H M N j fb bs hj l[i] hlen (mono_U hbs _)
    simp only [Hd.av] at hc
    cases hh : hasU bs l[i].a with
    | true =>
      simp only [hh] at hc
      simp [f128l0, f128r2, f128r3, f128r4, f128r6, Hd.av, h1, hc, hw2]
      refine gAgain_intro ⟨l.length - (i + 1), by omega, i + 1, _, _, _, rfl, by omega, rfl, fun k hk hki => ?_⟩
      by_cases e : k = i
      · subst e; exact hh
      · exact hall k hk (by omega)
    | false =>
      simp only [hh] at hc
      have hf : firstGo bs l = i := firstGo_unique hi hall (fun _ => hh)
      simp [f128l0, f128r2, f128r3, f128r4, f128r5, Hd.av, h1, hc, hf]
  · have h0 : i = l.length := by omega
    subst h0
    have hf : firstGo bs l = l.length := firstGo_unique hi hall (fun h => by omega)
    simp [f128l0, f128r2, f128r7, hf]

theorem flatH_put (l : List Hd) (tail : List AV) (i : Nat) (h : i < l.length) (a left : Int) : put (flatH l ++ tail) (i * 2) [.int .u32 a, .int .i64 left] = flatH (l.set i ⟨a, left⟩) ++ tail := by
  induction l generalizing i with
  | nil => simp at h
  | cons x r ih =>
    have e : (flatH (x :: r) ++ tail) = .int .u32 x.a :: .int .i64 x.left :: (flatH r ++ tail) := by simp [flatH, Hd.av]
    cases i with
    | zero =>
      rw [e]
      simp [put, flatH, Hd.av]
    | succ i =>
      have := ih i (by simpa using h)
      rw [e, List.set_cons_succ]
      have e2 : (flatH (x :: r.set i ⟨a, left⟩) ++ tail) = .int .u32 x.a :: .int .i64 x.left :: (flatH (r.set i ⟨a, left⟩) ++ tail) := by simp [flatH, Hd.av]
      rw [e2, ← this]
      simp only [put, List.length_cons, List.length_nil]
      rw [show (i + 1) * 2 = i * 2 + 1 + 1 by omega]
      simp only [List.take_succ_cons, List.cons_append, show i * 2 + 1 + 1 + (0 + 1 + 1) = i * 2 + (0 + 1 + 1) + 1 + 1 by omega, List.drop_succ_cons]

/-- Blocks that stay but for one. -/
def Keep (R0 : Lv) (b : Nat) (R : Lv) : Prop := R0.length ≤ R.length ∧ ∀ x, x ≠ b → x < R0.length → R[x]? = R0[x]?

theorem Keep.grow {R0 R : Lv} {b : Nat} (h : Keep R0 b R) (S : Lv) : Keep R0 b (R ++ S) :=
  ⟨by simp; have := h.1; omega, fun x h1 h2 => by rw [List.getElem?_append_left (by have := h.1; omega)]; exact h.2 x h1 h2⟩

theorem Keep.set {R0 R : Lv} {b : Nat} (h : Keep R0 b R) (ab : AB) : Keep R0 b (R.set b ab) :=
  ⟨by simpa using h.1, fun x h1 h2 => by rw [List.getElem?_set_ne (fun e => h1 e.symm)]; exact h.2 x h1 h2⟩

theorem delete_loop (H : List Lv) (c0 c1 c2 c3 w : AB) (R0 : Lv) (b jb : Nat) (fb : SM) (bs : List Int) (hbs : bs.Pairwise (· < ·)) (hbl : bs.length ≤ 140737488355328) (l : List Hd) (tail : List AV) (hlen : l.length ≤ 1000) (hbj : jb ≠ b) (hj : R0[jb]? = some (.cells [.sl fb (bs.map avU)]))
    (i0 j0 : Nat) (l0 : List Hd) (R1 : Lv) (hi0 : i0 < j0) (hj0 : j0 ≤ l.length) (hl0 : l0.length = l.length) (ht0 : l0.take i0 = (l.take j0).filter fun h => hasU bs h.a) (hd0 : l0.drop j0 = l.drop j0) (hb0 : R1[b]? = some (.cells (flatH l0 ++ tail))) (hk0 : Keep R0 b R1)
    {a4 a7 a12 a19 a29 : AV} {Q : Ex → Tm → Lv → Prop}
    (q : ∀ (i : Nat) (l' : List Hd) (R : Lv) a6 a7 a19 a29, i < l.length → l'.length = l.length → l'.take i = l.filter (fun h => hasU bs h.a) → R[b]? = some (.cells (flatH l' ++ tail)) → Keep R0 b R →
      Q (.exit 0) [(0, .own H.length (b + 5) 0 l.length 2 false), (1, .fn 121 [.ptr H.length (jb + 5) 0]), (4, a4), (5, .int .i64 i), (6, a6), (7, a7), (12, a12), (19, a19), (29, a29)] (c0 :: c1 :: c2 :: c3 :: w :: R)) :
    @gLoop G H f120l0 [(0, .own H.length (b + 5) 0 l.length 2 false), (1, .fn 121 [.ptr H.length (jb + 5) 0]), (4, a4), (5, .int .i64 i0), (6, .int .i64 j0), (7, a7), (12, a12), (19, a19), (29, a29)] (c0 :: c1 :: c2 :: c3 :: w :: R1) ⟨Q⟩ := by
  refine gLoop_inv (fun k T M => ∃ (i j : Nat) (l' : List Hd) (R : Lv) (a7 a19 a29 : AV), k = l.length - j ∧ j ≤ l.length ∧ i < j ∧ l'.length = l.length ∧ l'.take i = (l.take j).filter (fun h => hasU bs h.a) ∧ l'.drop j = l.drop j ∧ R[b]? = some (.cells (flatH l' ++ tail)) ∧ Keep R0 b R ∧
    M = c0 :: c1 :: c2 :: c3 :: w :: R ∧
    T = [(0, .own H.length (b + 5) 0 l.length 2 false), (1, .fn 121 [.ptr H.length (jb + 5) 0]), (4, a4), (5, .int .i64 i), (6, .int .i64 j), (7, a7), (12, a12), (19, a19), (29, a29)]) (l.length - j0) ?_ ?_
  · exact ⟨i0, j0, l0, R1, a7, a19, a29, rfl, hj0, hi0, hl0, ht0, hd0, hb0, hk0, rfl, rfl⟩
  rintro k T M ⟨i, j, l', R, a7, a19, a29, rfl, hjl, hij, hl', htk, hdr, hb, hk, rfl, rfl⟩
  by_cases h1 : j < l.length
  · have h2 : j < l'.length := by omega
    have hlj : l'[j] = l[j] := by
      have e1 := List.drop_eq_getElem_cons h2
      have e2 := List.drop_eq_getElem_cons h1
      rw [e1, e2] at hdr
      exact (List.cons.inj hdr).1
    have hdr' : l'.drop (j + 1) = l.drop (j + 1) := by
      have e1 := List.drop_eq_getElem_cons h2
      have e2 := List.drop_eq_getElem_cons h1
      rw [e1, e2] at hdr
      exact (List.cons.inj hdr).2
    have hw2 : IntKind.i64.wrap ((i : Int) + 1) = (i : Int) + 1 := wrap_i (by omega) (by omega)
    have hw3 : IntKind.i64.wrap ((j : Int) + 1) = (j : Int) + 1 := wrap_i (by omega) (by omega)
    have hd := flatH_drop l' tail j h2
    rw [hlj] at hd
    have hfl := flatH_len l'
    have hle : j * 2 ≤ l.length * 2 + tail.length := by omega
    have hle2 : i * 2 + 2 ≤ l.length * 2 + tail.length := by omega
    have hjl0 := (List.getElem?_eq_some_iff.1 hj).1
    have hRj : R[jb]? = some (.cells [.sl fb (bs.map avU)]) := by rw [hk.2 jb hbj hjl0]; exact hj
    have hRjl := (List.getElem?_eq_some_iff.1 hRj).1
    have hRbl := (List.getElem?_eq_some_iff.1 hb).1
    have hil : i < l.length := by omega
    have hil' : i < l'.length := by omega
    have hb1 : ∀ S : Lv, (R ++ S)[b]? = some (.cells (flatH l' ++ tail)) := fun S => by rw [List.getElem?_append_left hRbl]; exact hb
    have hj1 : ∀ S : Lv, (R ++ S)[jb]? = some (.cells [.sl fb (bs.map avU)]) := fun S => by rw [List.getElem?_append_left hRjl]; exact hRj
    have hbl1 : b < R.length + 1 := by omega
    have hb2 : ∀ (S : Lv) (h : b < (R ++ S).length), (R ++ S)[b] = .cells (flatH l' ++ tail) := fun S h => by
      have := hb1 S
      rw [List.getElem?_eq_getElem h] at this
      exact Option.some.inj this
    have hc : ∀ M : Lv, M[jb + 5]? = some (.cells [.sl fb (bs.map avU)]) → pcall (callW G) H M 121 [.agg [.int .u32 l[j].a, .int .i64 l[j].left], .ptr H.length (jb + 5) 0] = some (.bool (!hasU bs l[j].a)) :=
      fun M hM => only121_cur H M (jb + 5) fb bs hM l[j] hbl (mono_U hbs _)
    have hft : (l.take (j + 1)).filter (fun h => hasU bs h.a) = (l.take j).filter (fun h => hasU bs h.a) ++ (if hasU bs l[j].a then [l[j]] else []) := by
      rw [List.take_succ_eq_append_getElem h1, List.filter_append]
      congr 1
      by_cases hp : hasU bs l[j].a <;> simp [hp]
    cases hh : hasU bs l[j].a with
    | false =>
      simp only [hh] at hc hft
      simp [f120l0, f120r5, f120r6, f120r7, f120r10, h1, hl', hb, hb1, hj1, hd, hfl, hle, hc, hw3]
      exact gAgain_intro ⟨l.length - (j + 1), by omega, i, j + 1, l', _, _, _, _, rfl, by omega, by omega, hl', by rw [hft, htk]; simp, hdr', hb1 _, hk.grow _, rfl, rfl⟩
    | true =>
      simp only [hh] at hc hft
      simp [f120l0, f120r5, f120r6, f120r7, f120r8, f120r9, f120r10, h1, hl', hb, hb1, hj1, hd, hfl, hle, hle2, hbl1, hb2, hc, hw2, hw3, hil]
      rw [flatH_put l' tail i hil' l[j].a l[j].left]
      refine gAgain_intro ⟨l.length - (j + 1), by omega, i + 1, j + 1, l'.set i l[j], _, _, _, _, rfl, by omega, by omega, by simp [hl'], ?_, ?_, ?_, (hk.grow _).set _, rfl, rfl⟩
      · rw [hft, ← htk, List.take_succ_eq_append_getElem (by simpa using hil')]
        simp [List.take_set_of_le]
      · rw [List.drop_set_of_lt (by omega)]; exact hdr'
      · rw [List.getElem?_set_self (by simp; omega)]
  · have h0 : j = l.length := by omega
    subst h0
    simp [f120l0, f120r5]
    rw [List.take_of_length_le (Nat.le_refl _)] at htk
    exact q i l' R _ _ _ _ hij hl' htk hb hk

end Go.Ev.S

/- What a router knows of a group, at work: only some sources stay; they are kept. -/
namespace Go.Ev.S
open Go Go.Ev

theorem ownH_elems {H : List Lv} {M : Lv} {b : Nat} {l : List Hd} {tail : List AV} (h : M[b]? = some (.cells (flatH l ++ tail))) : elems H M (.own H.length b 0 l.length 2 false) = some (l.map Hd.av) := by
  have hx : ∀ x ∈ l.map Hd.av, x.length = 2 := fun x hx => by
    simp only [List.mem_map] at hx
    obtain ⟨h, _, rfl⟩ := hx
    rfl
  have hfl := flatH_len l
  have hc : ∀ (xs : List (List AV)) (t : List AV), (∀ x ∈ xs, x.length = 2) → chunk 2 xs.length (xs.flatten ++ t) = xs := by
    intro xs
    induction xs with
    | nil => intro t _; rfl
    | cons x r ih =>
      intro t hx
      have h0 := hx x (by simp)
      simp only [List.length_cons, chunk, List.flatten_cons, List.append_assoc]
      rw [List.take_left' h0, List.drop_left' h0, ih t (fun y hy => hx y (by simp [hy]))]
  have := hc (l.map Hd.av) tail hx
  simp only [List.length_map] at this
  simp only [elems, getB, if_true, h, Nat.zero_add, List.drop_zero, List.length_append, hfl]
  rw [if_pos (by omega)]
  exact congrArg some this

theorem ownH_borrow {H : List Lv} {M : Lv} {b : Nat} {l : List Hd} {tail : List AV} (h : M[b]? = some (.cells (flatH l ++ tail))) (d : Nat) : borrow H M (d + 1) (.own H.length b 0 l.length 2 false) = some (.sl ⟨false, true, false⟩ (l.map Hd.av)) := by
  simp only [borrow, ownH_elems h]
  rw [allM_id (l.map Hd.av) (fun x hx => allM_id x (fun a ha => by
    simp only [List.mem_map] at hx
    obtain ⟨h, _, rfl⟩ := hx
    simp only [Hd.av, List.mem_cons, List.not_mem_nil, or_false] at ha
    rcases ha with rfl | rfl <;> exact lend_int _ _))]
  rfl

theorem Acc.keep {H : List Lv} {R R' : Lv} {sz : Nat} {v : AV} {xs : List (List AV)} (h : Acc H 5 R sz v xs) {b : Nat} (hk : Keep R b R') (hb : ∀ n, v ≠ .own H.length (b + 5) 0 n sz false) : Acc H 5 R' sz v xs := by
  rcases h with h | ⟨c, h1, h2, h3⟩
  · exact .inl h
  · refine .inr ⟨c, h1, ?_, h3⟩
    rw [hk.2 c (fun e => by subst e; exact hb _ h1) (List.getElem?_eq_some_iff.1 h2).1]
    exact h2

theorem Keep.refl (R : Lv) (b : Nat) : Keep R b R := ⟨Nat.le_refl _, fun _ _ _ => rfl⟩

/-- What stays of a longer memory stays of a shorter one. -/
theorem Keep.of_append {R S R' : Lv} {b : Nat} (h : Keep (R ++ S) b R') : Keep R b R' :=
  ⟨by have := h.1; simp at this; omega, fun x h1 h2 => by rw [h.2 x h1 (by simp; omega), List.getElem?_append_left h2]⟩

theorem flatH_take (l : List Hd) (tail : List AV) (i : Nat) (h : i ≤ l.length) : (flatH l ++ tail).take (i * 2) = flatH (l.take i) := by
  have e : flatH l = flatH (l.take i) ++ flatH (l.drop i) := by
    simp only [flatH, ← List.flatten_append, ← List.map_append, List.take_append_drop]
  have hl := flatH_len (l.take i)
  simp only [List.length_take] at hl
  rw [e, List.append_assoc, List.take_left' (by rw [hl, Nat.min_eq_left h])]

theorem rep_len (z : List AV) : ∀ n, (rep n z).length = n * z.length
  | 0 => by simp [rep]
  | n + 1 => by simp [rep, rep_len z n, Nat.add_mul]; omega

theorem firstGo_spec {bs : List Int} : ∀ {l : List Hd} {i : Nat}, firstGo bs l = i → i < l.length → (∀ x ∈ l.take i, hasU bs x.a = true) ∧ ∀ h : i < l.length, hasU bs l[i].a = false
  | [], i, _, h => by simp at h
  | a :: r, i, h, hl => by
    simp only [firstGo, List.takeWhile_cons] at h
    split at h
    · rename_i ha
      cases i with
      | zero => simp at h
      | succ i =>
        simp only [List.length_cons, Nat.add_right_cancel_iff] at h
        obtain ⟨k1, k2⟩ := firstGo_spec (bs := bs) (l := r) (i := i) h (by simpa using hl)
        refine ⟨fun x hx => ?_, fun hh => ?_⟩
        · simp only [List.take_succ_cons, List.mem_cons] at hx
          rcases hx with rfl | hx
          · exact ha
          · exact k1 x hx
        · rw [List.getElem_cons_succ]
          exact k2 _
    · rename_i ha
      simp only [List.length_nil] at h
      subst h
      exact ⟨fun x hx => by simp at hx, fun _ => by simpa using ha⟩

theorem firstGo_all {bs : List Int} {l : List Hd} (h : ¬ firstGo bs l < l.length) : ∀ x ∈ l, hasU bs x.a = true := by
  have hp := List.takeWhile_prefix (l := l) (fun h => hasU bs h.a)
  have e : (l.takeWhile fun h => hasU bs h.a) = l := hp.eq_of_length (by unfold firstGo at h; have := hp.length_le; omega)
  intro x hx
  rw [← e] at hx
  exact (List.all_eq_true.1 (List.all_takeWhile (p := fun h : Hd => hasU bs h.a) (l := l))) x hx

theorem only105_c (H : List Lv) (R : Lv) (c0 c1 c2 c3 : AB) (g : Int) (ex : Bool) (left : Int) (vS : AV) (keep last : Int) (vB vA : AV) (l : List Hd) (asks : List Ak) (hW : Wk H R vS l vA asks) (fb : SM) (bs : List Int) (hbs : bs.Pairwise (· < ·)) (hbl : bs.length ≤ 140737488355328) (hlen : l.length ≤ 1000) {K : AV → Lv → Prop}
    (hK : ∀ vS' R', Wk H R' vS' (l.filter fun h => hasU bs h.a) vA asks → K (.tup []) (c0 :: c1 :: c2 :: c3 :: wkC g ex left vS' keep last vB vA :: R')) :
    @gO (callW G 105 [.ptr H.length 4 0, .sl fb (bs.map avU)] H (c0 :: c1 :: c2 :: c3 :: wkC g ex left vS keep last vB vA :: R)) ⟨K⟩ := by
  refine gO_call rfl rfl ?_
  rcases hW.own with ⟨rfl, rfl⟩ | ⟨b, tail, rfl, hb⟩
  · have hm : ∀ S : Lv, (R ++ [AB.cells [.sl fb (bs.map avU)]] ++ S)[R.length]? = some (.cells [.sl fb (bs.map avU)]) := fun S => by
      rw [List.getElem?_append_left (by simp)]; simp
    have hi := fun (M : Lv) (h : M[R.length + 1 + 1 + 1 + 1 + 1]? = some (.cells [.sl fb (bs.map avU)])) => index128_c H M (R.length + 1 + 1 + 1 + 1 + 1) nilM fb bs h [] hbl (by simp) hbs
    simp [nilM] at hi
    simp [f105r0, f105r1, wkC]
    refine gO_call rfl rfl ?_
    simp [f120r0, f120r1, f120r2, f120r3, nilS, hi]
    exact hK _ _ ⟨.inl ⟨rfl, rfl⟩, hW.acc.grow _, fun b n n' h => by cases h⟩
  · have hbl2 := (List.getElem?_eq_some_iff.1 hb).1
    have hj0 : (R ++ [AB.cells [.sl fb (bs.map avU)]])[R.length]? = some (.cells [.sl fb (bs.map avU)]) := by simp
    have hb0 : (R ++ [AB.cells [.sl fb (bs.map avU)]])[b]? = some (.cells (flatH l ++ tail)) := by rw [List.getElem?_append_left hbl2]; exact hb
    have hbr : ∀ (M : Lv) (d : Nat), M[b + 5]? = some (.cells (flatH l ++ tail)) → borrow H M (d + 1) (.own H.length (b + 5) 0 l.length 2 false) = some (.sl ⟨false, true, false⟩ (l.map Hd.av)) := fun M d h => ownH_borrow h d
    have hi := fun (M : Lv) (h : M[R.length + 1 + 1 + 1 + 1 + 1]? = some (.cells [.sl fb (bs.map avU)])) => index128_c H M (R.length + 1 + 1 + 1 + 1 + 1) ⟨false, true, false⟩ fb bs h l hbl (by omega) hbs
    simp [f105r0, f105r1, wkC]
    refine gO_call rfl rfl ?_
    by_cases hf : firstGo bs l < l.length
    · obtain ⟨i0, hi0⟩ : ∃ i0, i0 = firstGo bs l := ⟨_, rfl⟩
      rw [← hi0] at hf
      simp only [← hi0, if_pos hf] at hi
      have hw1 : IntKind.i64.wrap ((i0 : Int) + 1) = (i0 : Int) + 1 := wrap_i (by omega) (by omega)
      have hne : ¬ (i0 : Int) = -1 := by omega
      simp [f120r0, f120r1, f120r2, f120r4, hbr, hb0, hi, hw1, hne]
      have e1 : ((i0 : Int) + 1) = ((i0 + 1 : Nat) : Int) := by simp
      rw [e1]
      obtain ⟨g1, g2⟩ := firstGo_spec hi0.symm hf
      have g2 := g2 hf
      refine delete_loop H c0 c1 c2 c3 _ (R ++ [.cells [.sl fb (bs.map avU)]]) b R.length fb bs hbs hbl l tail hlen (by omega) hj0 i0 (i0 + 1) l _ (by omega) (by omega) rfl ?_ rfl hb0 (Keep.refl _ _) (fun i l' R' a6 a7 a19 a29 q1 q2 q3 q4 q5 => ?_)
      · rw [List.take_succ_eq_append_getElem hf, List.filter_append, List.filter_eq_self.2 g1]
        simp [g2]
      · have hfl := flatH_len l'
        have q6 : i * 2 + (l.length - i) * 2 ≤ l.length * 2 + tail.length := by omega
        have q7 : ¬ l.length - i = 0 := by omega
        have q8 : i ≤ l.length := by omega
        have hbl3 := (List.getElem?_eq_some_iff.1 q4).1
        have q9 : ∀ (h : b < R'.length), R'[b] = .cells (flatH l' ++ tail) := fun h => by
          rw [List.getElem?_eq_getElem h] at q4
          exact Option.some.inj q4
        simp [f120r11, f120r12, q2, q4, q6, q7, q8, q9, hfl, hbl3]
        have q10 : (l.filter fun h => hasU bs h.a).length = i := by
          rw [← q3, List.length_take, q2]; exact Nat.min_eq_left q8
        refine hK _ _ ⟨.inr ⟨b, rep (l.length - i) [.int .u32 0, .int .i64 0] ++ (flatH l' ++ tail).drop (i * 2 + (rep (l.length - i) [AV.int .u32 0, .int .i64 0]).length), by rw [q10], ?_⟩, Acc.keep hW.acc ((Keep.of_append q5).set _) (fun n h => hW.apart b _ n rfl h), fun b2 n n' h => by cases h; exact hW.apart b _ _ rfl⟩
        rw [List.getElem?_set_self hbl3]
        simp only [put]
        rw [flatH_take _ _ _ (by omega), q3, List.append_assoc]
    · simp only [if_neg hf] at hi
      simp [f120r0, f120r1, f120r2, f120r3, hbr, hb0, hi]
      have hall : l.filter (fun h => hasU bs h.a) = l := by
        rw [List.filter_eq_self]
        exact firstGo_all hf
      refine hK _ _ ⟨?_, hW.acc.grow _, hW.apart⟩
      rw [hall]
      exact .inr ⟨b, tail, rfl, hb0⟩

end Go.Ev.S
