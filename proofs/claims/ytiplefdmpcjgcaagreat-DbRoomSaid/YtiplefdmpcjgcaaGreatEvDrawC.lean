/- Regions that draw their order: whatever the order, what comes is what the evaluator says. -/
import Derived.Test.YtiplefdmpcjgcaaGreatEvDrawB
namespace Go.Ev
open Go Go.RowKit

section
variable {P : Program} {w : World} {O X : Nat → Prop} {μ : Mu} {H : List Lv} {L : Lv}

/-- Of what memory stands for, less. -/
theorem Mem.weaken {md : Nat → Md} {M : Lv} (m : Mem P md w O X μ H M) (hlen : M.length ≤ L.length) (h : ∀ (b : Nat) (x : AB), L[b]? = some x → x.live → M[b]? = some x) : Mem P md w O X μ H L where
  xo := m.xo
  ol := m.ol
  dom b hb := m.dom b (Nat.le_trans hlen hb)
  dom2 := m.dom2
  cur b ab e hl := m.cur b ab (h b ab e hl) hl
  inj b b' x x' g o o' e1 l1 e2 l2 := m.inj b b' x x' g o o' (h b x e1 l1) l1 (h b' x' e2 l2) l2
  old l b ab hlt e hl := m.old l b ab hlt (by
    unfold getB at e ⊢
    rw [if_neg (by omega)] at e ⊢
    exact e) hl

theorem mask_len : ∀ (v : List Bool) (S : Lv), (mask v S).length = v.length
  | [], S => by cases S <;> rfl
  | v :: vs, [] => by simp [mask, mask_len vs []]
  | v :: vs, b :: bs => by simp [mask, mask_len vs bs]

theorem mask_get : ∀ (v : List Bool) (S : Lv) (s : Nat) (x : AB), (mask v S)[s]? = some x → x.live → v[s]? = some true ∧ S[s]? = some x
  | [], S, s, x, e, _ => by cases S <;> simp [mask] at e
  | v :: vs, [], 0, x, e, hl => by simp [mask] at e; subst e; exact hl.elim
  | v :: vs, [], s + 1, x, e, hl => by
    have := (mask_get vs [] s x (by simpa [mask] using e) hl).2
    simp at this
  | v :: vs, b :: bs, 0, x, e, hl => by
    cases v with
    | true => simp [mask] at e; subst e; exact ⟨rfl, rfl⟩
    | false => simp [mask] at e; subst e; exact hl.elim
  | v :: vs, b :: bs, s + 1, x, e, hl => by
    obtain ⟨h1, h2⟩ := mask_get vs bs s x (by simpa [mask] using e) hl
    exact ⟨by simpa using h1, by simpa using h2⟩

theorem step_float {G : GP} {call : CallT} {i : I} {σ σ' : DS} {v : AV} (h : stepD G call H i σ = some (v, σ')) (hb : isBar G.md i.i = true) {B S : Lv} {b : Nat} (hW : σ'.W = some (B, S, b)) :
    B = σ.B ∧ S = σ.S ∧ ∃ nb, σ'.B = (σ.B ++ σ.S).set b nb := by
  unfold stepD at h
  split at h
  · cases hk : i.i.kd with
    | w =>
      simp only [hk] at h
      split at h
      · rename_i v' M hv
        simp only [Option.some.injEq, Prod.mk.injEq] at h
        obtain ⟨rfl, rfl⟩ := h
        simp only at hW
        unfold wslot at hW
        split at hW
        · rename_i sz a x hi
          split at hW
          · rename_i l b' o ha
            simp only [Option.some.injEq, Prod.mk.injEq] at hW
            obtain ⟨rfl, rfl, rfl⟩ := hW
            refine ⟨rfl, rfl, ?_⟩
            rw [hi] at hv
            simp only [evW, ha] at hv
            split at hv
            · split at hv
              · split at hv
                · simp only [Option.map_eq_some_iff, Prod.mk.injEq] at hv
                  obtain ⟨L1, hset, _, rfl⟩ := hv
                  obtain ⟨_, _, rfl⟩ := setB_spec hset
                  exact ⟨_, rfl⟩
                · cases hv
              · cases hv
            · cases hv
          · cases hW
        · cases hW
      · cases h
    | p =>
      simp only [hk] at h
      split at h
      · rename_i f as hi
        split at h
        · rename_i hmd
          simp [isBar, hi, isImp, hmd, Ins.kd] at hb
        · split at h
          · simp only [Option.some.injEq, Prod.mk.injEq] at h
            obtain ⟨rfl, rfl⟩ := h
            cases hW
          · cases h
      · cases h
    | _ => simp [isBar, hk] at hb
  · simp only [Option.some.injEq, Prod.mk.injEq] at h
    obtain ⟨rfl, rfl⟩ := h
    rw [if_pos hb] at hW
    cases hW
  · cases h

theorem next_bar {md : Nat → Md} {is : List I} (n : Nat) : ∀ k p, n - p = k → p ≤ n → ∃ r, p ≤ r ∧ r ≤ n ∧ loAt md is r = loAt md is p ∧ (r = n ∨ barAt md is r = true)
  | 0, p, h, hp => ⟨p, Nat.le_refl _, hp, rfl, .inl (by omega)⟩
  | k + 1, p, h, hp => by
    cases hb : barAt md is p with
    | true => exact ⟨p, Nat.le_refl _, hp, rfl, .inr hb⟩
    | false =>
      obtain ⟨r, h1, h2, h3, h4⟩ := next_bar (md := md) (is := is) n k (p + 1) (by omega) (by omega)
      exact ⟨r, by omega, h2, by rw [h3]; simp [loAt, hb], h4⟩

def dOf (is : List I) (p : Nat) : Option Nat := (is[p]?).bind (·.d)

/-- Where a region that draws its order stands, when 'ls' have come. -/
structure Inv (P : Program) (G : GP) (H : List Lv) (is : List I) (st : Nat → DS) (vv : Nat → AV) (T : Tm) (nt : Nat) (ds : List Deferred) (ls : Nat → Bool) (a : Act) (w : World) (O X : Nat → Prop) (μ : Mu) (q q' : Nat) (MS : Lv) : Prop where
  q1 : loAt G.md is q' = q
  q2 : q' ≤ is.length
  q3 : q' = is.length ∨ barAt G.md is q' = true
  done : ∀ p, p < q → ls p = true
  notb : q' < is.length → ls q' = false
  mem : Mem P G.md w O X μ H ((st q).B ++ MS)
  len : MS.length = slotAt G.md is q'
  get : ∀ m, q ≤ m → m < q' → mkAt is m = true → MS[slotAt G.md is m]? = some (if ls m then blk G.md is st m else .dead)
  free : ∀ m, q ≤ m → m < q' → mkAt is m = true → ls m = false → μ H.length ((st q).B.length + slotAt G.md is m) = none
  sim : SimT w O X μ (ES T (dOf is) vv ls is.length) a
  room : St nt ds a

variable {G : GP} {call : CallT} {is : List I} {st : Nat → DS} {vv : Nat → AV} {T : Tm} {nt : Nat} {ds : List Deferred} {ops : Array Oper} {b : Array Nat} {ord : List Nat}

theorem tr_env (t : Tr G call H is st vv) (h0 : (st 0).E = T) : ∀ p, p ≤ is.length → (st p).E = ES T (dOf is) vv (fun _ => true) p
  | 0, _ => h0
  | p + 1, h => by
    obtain ⟨x, hx, _, _, h1, _⟩ := t.at (p := p) (by omega)
    rw [h1, tr_env t h0 p (by omega)]
    simp only [ES, if_true, dOf, hx, Option.bind_some]

theorem ord_at (k : DOk G.md ops b ord is) {p : Nat} (hp : p < is.length) : ord[p]? = some (ord.getD p 0) := by
  have : p < ord.length := by rw [k.lo, ← k.li]; exact hp
  rw [List.getD_eq_getElem?_getD, List.getElem?_eq_getElem this]
  rfl

/-- What may come up now. -/
structure Rdy (b : Array Nat) (ord : List Nat) (n : Nat) (ls : Nat → Bool) (p : Nat) : Prop where
  lt : p < n
  no : ls p = false
  pre : ∀ j, j < n → bit b (ord.getD p 0) (ord.getD j 0) = true → ls j = true
  post : ∀ j, j < n → bit b (ord.getD j 0) (ord.getD p 0) = true → ls j = false

section
variable {ls : Nat → Bool} {p : Nat} {x : I}

theorem agree (k : DOk G.md ops b ord is) (t : Tr G call H is st vv) (h0 : (st 0).E = T) (r : Rdy b ord is.length ls p) (hx : is[p]? = some x) {tm : Nat} (ht : tm ∈ insR x.i ∨ tm ∈ guardR x.g) :
    lk (ES T (dOf is) vv ls is.length) tm = lk (st p).E tm := by
  have hp := r.lt
  rw [tr_env t h0 p (by omega), ← ES_pre is.length p (by omega)]
  refine lk_ES _ (fun j hj hd => ?_)
  have hy := List.getElem?_eq_getElem hj
  simp only [dOf, hy, Option.bind_some] at hd
  rcases Nat.lt_trichotomy j p with h | h | h
  · have hc := clash_l (x := is[j]) (y := x) hd (by rcases ht with q | q; exact .inl q; exact .inr (.inl q))
    rw [r.pre j hj (k.cl j p _ x _ _ h hy hx (ord_at k hj) (ord_at k hp) hc)]
    simp [h]
  · subst h; rw [r.no]; simp
  · have hc := clash_r (x := x) (y := is[j]) hd ht
    rw [r.post j hj (k.cl p j x _ _ _ h hx hy (ord_at k hp) (ord_at k hj) hc)]
    simp; omega

theorem after (k : DOk G.md ops b ord is) (r : Rdy b ord is.length ls p) (hx : is[p]? = some x) {ls' : Nat → Bool} (hls : ∀ j, j < is.length → ls' j = if j = p then true else ls j) (tm : Nat) :
    lk (ES T (dOf is) vv ls' is.length) tm = lk (dput x.d (vv p) (ES T (dOf is) vv ls is.length)) tm := by
  have hp := r.lt
  have hdp : dOf is p = x.d := by simp [dOf, hx]
  by_cases hd : x.d = some tm
  · rw [hd, lk_dput_eq]
    refine lk_ES_last (by rw [hls p hp, if_pos rfl]) (by rw [hdp]; exact hd) _ hp (fun j hj hpj hdj => ?_)
    have hy := List.getElem?_eq_getElem hj
    simp only [dOf, hy, Option.bind_some] at hdj
    have hc := clash_l (x := x) (y := is[j]) hd (.inr (.inr hdj))
    rw [hls j hj, if_neg (by omega)]
    exact r.post j hj (k.cl p j x _ _ _ hpj hx hy (ord_at k hp) (ord_at k hj) hc)
  · rw [lk_dput_ne hd]
    refine lk_ES _ (fun j hj hdj => ?_)
    rw [hls j hj, if_neg (fun e => hd (by rw [← hdp, ← e]; exact hdj))]

end

section
variable {ls : Nat → Bool} {a : Act} {q q' : Nat} {MS : Lv}

/-- When all that makes something has come. -/
theorem Inv.full (i : Inv P G H is st vv T nt ds ls a w O X μ q q' MS) (t : Tr G call H is st vv) (h : ∀ m, q ≤ m → m < q' → ls m = true) : (st q).B ++ MS = (st q').B ++ (st q').S := by
  obtain ⟨h1, _, _⟩ := t.base q' i.q2
  rw [i.q1] at h1
  rw [h1]
  congr 1
  apply List.ext_getElem?
  intro s
  by_cases hs : s < slotAt G.md is q'
  · obtain ⟨m, k1, k2, k3, rfl⟩ := slot_cov q' s hs
    rw [t.get i.q2 k1 k2 k3]
    rw [i.q1] at k1
    rw [i.get m k1 k2 k3, h m k1 k2, if_pos rfl]
  · rw [List.getElem?_eq_none (by rw [i.len]; omega), List.getElem?_eq_none (by rw [t.len q' i.q2]; omega)]

variable {p : Nat} {x : I}

theorem Inv.place (i : Inv P G H is st vv T nt ds ls a w O X μ q q' MS) (r : Rdy b ord is.length ls p) : q ≤ p := by
  rcases Nat.lt_or_ge p q with h | h
  · have := i.done p h; rw [r.no] at this; cases this
  · exact h

/-- What isn't still, and may not come ahead, comes ahead of the next instruction that writes. -/
theorem Inv.seg (i : Inv P G H is st vv T nt ds ls a w O X μ q q' MS) (k : DOk G.md ops b ord is) (r : Rdy b ord is.length ls p) (hx : is[p]? = some x) (hs : still x.i = false) (hf : x.f = true → loAt G.md is p ≠ q' + 1) : p ≤ q' := by
  rcases Nat.lt_or_ge q' p with h | h
  · exfalso
    have hq : q' < is.length := Nat.lt_trans h r.lt
    have hy := List.getElem?_eq_getElem hq
    have hbar : isBar G.md is[q'].i = true := by
      rcases i.q3 with e | e
      · omega
      · simpa [barAt, hy] using e
    rcases k.bar2 q' p _ x _ _ h hy hx (ord_at k hq) (ord_at k r.lt) hbar with e | e | e
    · have := r.pre q' hq e; rw [i.notb hq] at this; cases this
    · rw [hs] at e; cases e
    · exact hf e.1 e.2
  · exact h

/-- Another world, the same segment. -/
theorem Inv.next (i : Inv P G H is st vv T nt ds ls a w O X μ q q' MS) (k : DOk G.md ops b ord is) (r : Rdy b ord is.length ls p) (hx : is[p]? = some x) {ls' : Nat → Bool} (hls : ∀ j, j < is.length → ls' j = if j = p then true else ls j)
    (hb : isBar G.md x.i = false) (hlt : ∀ d, x.d = some d → d < nt) {w' : World} {O' X' : Nat → Prop} {μ' : Mu} {MS' : Lv} (he : Ext w O X μ w' O' X' μ') (hmem : Mem P G.md w' O' X' μ' H ((st q).B ++ MS')) (hlen : MS'.length = MS.length)
    (hget : ∀ m, q ≤ m → m < q' → mkAt is m = true → MS'[slotAt G.md is m]? = if m = p then some (blk G.md is st m) else MS[slotAt G.md is m]?)
    (hfree : ∀ m, q ≤ m → m < q' → mkAt is m = true → m ≠ p → ls m = false → μ' H.length ((st q).B.length + slotAt G.md is m) = none) {u : Value} (hu : vv p ≠ .un → Rep w' O' X' μ' (vv p) u) :
    Inv P G H is st vv T nt ds ls' (a.put x.d u) w' O' X' μ' q q' MS' where
  q1 := i.q1
  q2 := i.q2
  q3 := i.q3
  done j hj := by
    have hq : q ≤ q' := by rw [← i.q1]; exact lo_le q'
    have := i.q2
    rw [hls j (by omega)]
    split
    · rfl
    · exact i.done j hj
  notb h := by
    rw [hls q' h, if_neg (fun e => ?_)]
    · exact i.notb h
    · subst e
      rcases i.q3 with e | e
      · omega
      · simp [barAt, hx, hb] at e
  mem := hmem
  len := by rw [hlen]; exact i.len
  get m h1 h2 h3 := by
    have := i.q2
    rw [hget m h1 h2 h3, hls m (by omega)]
    split
    · simp
    · exact i.get m h1 h2 h3
  free m h1 h2 h3 h4 := by
    have := i.q2
    rw [hls m (by omega)] at h4
    split at h4
    · cases h4
    · rename_i hne; exact hfree m h1 h2 h3 hne h4
  sim := by
    have h1 := (i.sim.ext i.mem.xo he).put (d := x.d) (v := vv p) (u := u) (fun d e => Nat.lt_of_lt_of_le (hlt d e) i.room.1) hu
    intro tm hn
    rw [after k r hx hls tm] at hn ⊢
    exact h1 tm hn
  room := i.room.put _ _

/-- Behind an instruction that writes. -/
theorem Inv.over (i : Inv P G H is st vv T nt ds ls a w O X μ q q' MS) (k : DOk G.md ops b ord is) (t : Tr G call H is st vv) (r : Rdy b ord is.length ls q') (hx : is[q']? = some x) {ls' : Nat → Bool} (hls : ∀ j, j < is.length → ls' j = if j = q' then true else ls j)
    (hb : isBar G.md x.i = true) (hlt : ∀ d, x.d = some d → d < nt) {w' : World} {O' X' : Nat → Prop} {μ' : Mu} (he : Ext w O X μ w' O' X' μ') (hmem : Mem P G.md w' O' X' μ' H (st (q' + 1)).B) {u : Value} (hu : vv q' ≠ .un → Rep w' O' X' μ' (vv q') u) :
    ∃ q1 q1' MS', Inv P G H is st vv T nt ds ls' (a.put x.d u) w' O' X' μ' q1 q1' MS' := by
  have hq := r.lt
  have hbq : barAt G.md is q' = true := by simp [barAt, hx, hb]
  obtain ⟨r1, h1, h2, h3, h4⟩ := next_bar (md := G.md) (is := is) is.length _ (q' + 1) rfl hq
  have hlo : loAt G.md is (q' + 1) = q' + 1 := by simp [loAt, hbq]
  rw [hlo] at h3
  have later : ∀ m, q' < m → m < is.length → (mkAt is m = true ∨ barAt G.md is m = true) → ls' m = false := by
    intro m hm hml hmk
    have hy := List.getElem?_eq_getElem hml
    rw [hls m hml, if_neg (by omega)]
    rcases hmk with hmk | hmk
    · have hmk' : isMk is[m].i = true := by simpa [mkAt, hy] using hmk
      rcases k.bar2 q' m x _ _ _ hm hx hy (ord_at k hq) (ord_at k hml) hb with e | e | e
      · exact r.post m hml e
      · have := still_kd e; simp [isMk, this] at hmk'
      · have := (k.floats m _ _ hy (ord_at k hml) e.1).1
        simp [reads, hmk'] at this
    · have hmk' : isBar G.md is[m].i = true := by simpa [barAt, hy] using hmk
      exact r.post m hml (k.bar q' m _ _ _ hm hy (ord_at k hq) (ord_at k hml) hmk')
  refine ⟨q' + 1, r1, List.replicate (slotAt G.md is r1) .dead, h3, h2, h4, fun j hj => ?_, fun h => ?_, ?_, by simp, fun m k1 k2 k3 => ?_, fun m k1 k2 k3 k4 => ?_, ?_, i.room.put _ _⟩
  · rw [hls j (by omega)]
    split
    · rfl
    · rename_i hne
      exact r.pre j (by omega) (k.bar j q' x _ _ (by omega) hx (ord_at k (by omega)) (ord_at k hq) hb)
  · rcases h4 with e | e
    · omega
    · exact later r1 (by omega) h (.inr e)
  · refine hmem.weaken (by simp) (fun c y e hl => ?_)
    rw [List.getElem?_append] at e
    split at e
    · exact e
    · rw [List.getElem?_replicate] at e
      split at e
      · simp only [Option.some.injEq] at e; subst e; exact hl.elim
      · cases e
  · rw [later m (by omega) (by omega) (.inl k3)]
    have := slot_lt (md := G.md) (is := is) (r := r1) (m := m) (by omega) k2 k3
    simp [this]
  · exact hmem.dom _ (by omega)
  · have h1 := (i.sim.ext i.mem.xo he).put (d := x.d) (v := vv q') (u := u) (fun d e => Nat.lt_of_lt_of_le (hlt d e) i.room.1) hu
    intro tm hn
    rw [after k r hx hls tm] at hn ⊢
    exact h1 tm hn

/-- What an instruction that reads sees. -/
theorem Inv.reads (i : Inv P G H is st vv T nt ds ls a w O X μ q q' MS) (k : DOk G.md ops b ord is) (t : Tr G call H is st vv) (r : Rdy b ord is.length ls p) (hx : is[p]? = some x) (hr : reads G.md x.i = true) (hf : x.f = false) :
    Mem P G.md w O X μ H ((st p).B ++ mask x.v (st p).S) := by
  have hst : still x.i = false := by simp only [Ev.reads, Bool.and_eq_true, Bool.not_eq_true'] at hr; exact hr.1.1
  have hbar : isBar G.md x.i = false := by simp only [Ev.reads, Bool.and_eq_true, Bool.not_eq_true'] at hr; exact hr.2
  have h1 := i.place r
  have h2 : p < q' := by
    have := i.seg k r hx hst (fun q => by rw [hf] at q; cases q)
    rcases Nat.lt_or_ge p q' with h | h
    · exact h
    · have e : p = q' := by omega
      subst e
      rcases i.q3 with e | e
      · have := r.lt; omega
      · simp [barAt, hx, hbar] at e
  have hlo : loAt G.md is p = q := by rw [← i.q1]; exact lo_eq p q' (by omega) (by rw [i.q1]; exact h1)
  obtain ⟨hv, hs⟩ := k.sees p x _ hx (ord_at k r.lt) hr hf q' (by rw [← k.li]; exact i.q2) (by omega) (by rw [i.q1]; exact h1) (by rw [← k.li]; exact i.q3)
  have hB := (t.base p (by have := r.lt; omega)).1
  rw [hlo] at hB
  rw [hB]
  refine i.mem.weaken (by simp [mask_len, hv, i.len]) (fun c y e hl => ?_)
  rw [List.getElem?_append] at e ⊢
  split
  · rename_i hc; rw [if_pos hc] at e; exact e
  · rename_i hc
    rw [if_neg hc] at e
    obtain ⟨e1, e2⟩ := mask_get _ _ _ _ e hl
    have hlt := (List.getElem?_eq_some_iff.1 e2).1
    rw [t.len p (by have := r.lt; omega)] at hlt
    obtain ⟨m, k1, k2, k3, k4⟩ := slot_cov p _ hlt
    rw [← k4] at e1 e2 ⊢
    have hm : m < is.length := by have := r.lt; omega
    have hls := r.pre m hm (hs m _ k2 k1 k3 (ord_at k hm) e1)
    rw [i.get m (by omega) (by omega) k3, hls, if_pos rfl, ← e2]
    exact (t.get (by have := r.lt; omega) k1 k2 k3).symm

/-- What an instruction that may come ahead of the last one that writes sees. -/
theorem Inv.floats (i : Inv P G H is st vv T nt ds ls a w O X μ q q' MS) (k : DOk G.md ops b ord is) (t : Tr G call H is st vv) (r : Rdy b ord is.length ls p) (hx : is[p]? = some x) (hf : x.f = true) {Lm : Lv} (hL : floatM (st p).W x.v = some Lm) : Mem P G.md w O X μ H Lm := by
  obtain ⟨hr, hkd, hpos, hv, hs, hz⟩ := k.floats p x _ hx (ord_at k r.lt) hf
  have hst : still x.i = false := by simp only [Ev.reads, Bool.and_eq_true, Bool.not_eq_true'] at hr; exact hr.1.1
  have hbar : isBar G.md x.i = false := by simp only [Ev.reads, Bool.and_eq_true, Bool.not_eq_true'] at hr; exact hr.2
  have hp := r.lt
  have h1 := i.place r
  -- the instruction that writes
  generalize hk : loAt G.md is p - 1 = kk at *
  have hkb : barAt G.md is kk = true := by rw [← hk]; exact lo_bar p hpos
  have hlop : loAt G.md is p = kk + 1 := by omega
  have hkp : kk < p := by have := lo_le (md := G.md) (is := is) p; omega
  have hW := (t.base p (by omega)).2.1
  rw [hlop] at hW
  unfold floatM at hL
  split at hL
  · rename_i B S bb hWp
    simp only [Option.some.injEq] at hL
    subst hL
    rw [hW] at hWp
    have hy := List.getElem?_eq_getElem (show kk < is.length by omega)
    obtain ⟨rfl, rfl, nb, hnb⟩ := step_float (t.step kk _ hy) (by simpa [barAt, hy] using hkb) hWp
    have hlS := t.len kk (by omega)
    rcases Nat.lt_or_ge q' p with hc | hc
    · -- it comes ahead
      have hkq : kk = q' := by
        rcases Nat.lt_trichotomy kk q' with h | h | h
        · exfalso
          have := lo_nobar (md := G.md) (is := is) p q' (by omega) hc
          rcases i.q3 with e | e
          · omega
          · rw [this] at e; cases e
        · exact h
        · exfalso
          have hq : q' < is.length := by omega
          have hyq := List.getElem?_eq_getElem hq
          have hbq : isBar G.md is[q'].i = true := by
            rcases i.q3 with e | e
            · omega
            · simpa [barAt, hyq] using e
          rcases k.bar2 q' p _ x _ _ hc hyq hx (ord_at k hq) (ord_at k hp) hbq with e | e | e
          · have := r.pre q' hq e; rw [i.notb hq] at this; cases this
          · rw [hst] at e; cases e
          · omega
      subst hkq
      have hB := (t.base kk (by omega)).1
      rw [i.q1] at hB
      refine i.mem.weaken (by simp [mask_len, hv, i.len, hB]) (fun c y e hl => ?_)
      rcases getElem?_set_of e with ⟨_, rfl⟩ | ⟨_, e'⟩
      · exact hl.elim
      · rw [hB] at e'
        rw [List.getElem?_append] at e' ⊢
        split
        · rename_i hcc; rw [if_pos hcc] at e'; exact e'
        · rename_i hcc
          rw [if_neg hcc] at e'
          obtain ⟨e1, e2⟩ := mask_get _ _ _ _ e' hl
          have hlt := (List.getElem?_eq_some_iff.1 e2).1
          rw [hlS] at hlt
          obtain ⟨m, k1, k2, k3, k4⟩ := slot_cov kk _ hlt
          rw [← k4] at e1 e2 ⊢
          have hm : m < is.length := by omega
          have hls := r.pre m hm (hs m _ k2 k1 k3 (ord_at k hm) e1)
          rw [i.get m (by rw [← i.q1]; exact k1) k2 k3, hls, if_pos rfl, ← e2]
          exact (t.get (by omega) k1 k2 k3).symm
    · -- it comes behind
      have hpq : p < q' := by
        rcases Nat.lt_or_ge p q' with h | h
        · exact h
        · have e : p = q' := by omega
          subst e
          rcases i.q3 with e | e
          · omega
          · simp [barAt, hx, hbar] at e
      have hlo : loAt G.md is p = q := by rw [← i.q1]; exact lo_eq p q' (by omega) (by rw [i.q1]; exact h1)
      have hqk : q = kk + 1 := by omega
      have hz' := hz q' (by rw [← k.li]; exact i.q2) (by omega) (by rw [i.q1]; exact h1) (by rw [← k.li]; exact i.q3)
      have hMS : MS = [] := List.eq_nil_of_length_eq_zero (by rw [i.len, hz'])
      have hm := i.mem
      rw [hMS, List.append_nil, hqk, hnb] at hm
      refine hm.weaken (by simp [mask_len, hv, hlS]) (fun c y e hl => ?_)
      rcases getElem?_set_of e with ⟨_, rfl⟩ | ⟨hne, e'⟩
      · exact hl.elim
      · rw [List.getElem?_set_ne (fun q => hne q.symm)]
        rw [List.getElem?_append] at e' ⊢
        split
        · rename_i hcc; rw [if_pos hcc] at e'; exact e'
        · rename_i hcc
          rw [if_neg hcc] at e'
          exact (mask_get _ _ _ _ e' hl).2
  · cases hL

end
end
end Go.Ev
