/- Regions that draw their order. -/
import Derived.Test.YtiplefdmpcjgcaaGreatEvDrawC
namespace Go.Ev
open Go Go.RowKit

section
variable {P : Program} {w : World} {O X : Nat → Prop} {μ : Mu} {H : List Lv} {L : Lv}
variable {G : GP} {call : CallT} {is : List I} {st : Nat → DS} {vv : Nat → AV} {T : Tm} {nt : Nat} {ds : List Deferred} {r0 : Option Nat} {n0 : Nat} {ops : Array Oper} {b : Array Nat} {ord : List Nat}
variable {ls : Nat → Bool} {a : Act} {q q' : Nat} {MS : Lv} {p : Nat} {x : I}

/-- One operation, whenever it may come up. -/
theorem Inv.step (i : Inv P G H is st vv T nt ds ls a w O X μ q q' MS) (k : DOk G.md ops b ord is) (t : Tr G call H is st vv) (h0 : (st 0).E = T) (hs : SoundC P G.md call) (r : Rdy b ord is.length ls p) (hx : is[p]? = some x) {o : Oper} (hc : Comp1 P nt ops o x)
    {ls' : Nat → Bool} (hls : ∀ j, j < is.length → ls' j = if j = p then true else ls j) {K : Act → World → Prop} {Q : Exit → Act → World → Prop}
    (hK : ∀ a' w' O' X' μ' q1 q1' MS', Ext w O X μ w' O' X' μ' → Inv P G H is st vv T nt ds ls' a' w' O' X' μ' q1 q1' MS' → K a' w') :
    if Region.wanted o (yielded ops a.tmps) then o.wpIn (rf r0) n0 P a w K Q else (∀ f, o.about P w a.eval = some f → (rf r0).fn f) ∧ K (a.put o.dst undef) w := by
  have hd : ∀ d, x.d = some d → d < nt := fun d e => hc.lt d (by rw [← hc.d]; exact e)
  have hp := r.lt
  have hE : ∀ tm ∈ insR x.i, lk (ES T (dOf is) vv ls is.length) tm = lk (st p).E tm := fun tm ht => agree k t h0 r hx (.inl ht)
  have hW : want x.g (ES T (dOf is) vv ls is.length) = want x.g (st p).E := want_congr fun tm ht => agree k t h0 r hx (.inr ht)
  have hstep := t.step p x hx
  have bar_place : isBar G.md x.i = true → p = q' := fun hb => by
    have h1 := i.place r
    rcases Nat.lt_trichotomy p q' with h | h | h
    · exfalso
      have := lo_nobar (md := G.md) (is := is) q' p (by rw [i.q1]; exact h1) h
      simp [barAt, hx, hb] at this
    · exact h
    · exfalso
      have hq : q' < is.length := by omega
      have := r.pre q' hq (k.bar q' p x _ _ h hx (ord_at k hq) (ord_at k hp) hb)
      rw [i.notb hq] at this; cases this
  have bar_all : isBar G.md x.i = true → ∀ m, q ≤ m → m < q' → ls m = true := fun hb m h1 h2 => by
    have e := bar_place hb
    subst e
    exact r.pre m (by omega) (k.bar m p x _ _ h2 hx (ord_at k (by omega)) (ord_at k hp) hb)
  have mk_place : isMk x.i = true → p < q' := fun hm => by
    have hst : still x.i = false := by
      cases hst : still x.i with
      | false => rfl
      | true => have := still_kd hst; simp [isMk, this] at hm
    have hnb : isBar G.md x.i = false := by
      cases hkd : x.i.kd <;> simp [isMk, hkd] at hm
      simp [isBar, hkd]
    have := i.seg k r hx hst (fun hf => by
      have := (k.floats p x _ hx (ord_at k hp) hf).1
      simp [Ev.reads, hm] at this)
    rcases Nat.lt_or_ge p q' with h | h
    · exact h
    · have e : p = q' := by omega
      subst e
      rcases i.q3 with e | e
      · omega
      · simp [barAt, hx, hnb] at e
  -- nothing in memory changes that anybody owns
  have calm : isBar G.md x.i = false → isMk x.i = false → ∀ (w' : World) (u : Value), Ext w O X μ w' O X μ → (∀ g, g < w.heap.size → w'.heap[g]? = w.heap[g]?) → (vv p ≠ .un → Rep w' O X μ (vv p) u) → K (a.put x.d u) w' := by
    intro hb hm w' u k1 k2 k3
    refine hK _ _ O X μ q q' MS k1 (i.next k r hx hls hb hd k1 (i.mem.stays k1 k2) rfl (fun m h1 h2 h3 => ?_) (fun m h1 h2 h3 _ h5 => i.free m h1 h2 h3 h5) k3)
    rw [if_neg (fun e => ?_)]
    subst e
    simp [mkAt, hx, hm] at h3
  -- a block was made
  have made_ : isMk x.i = true → ∀ (w' : World) (O' X' : Nat → Prop) (μ' : Mu) (u : Value), Ext w O X μ w' O' X' μ' → Mem P G.md w' O' X' μ' H ((st q).B ++ MS.set (slotAt G.md is p) (blk G.md is st p)) →
      (∀ l c, ¬ (l = H.length ∧ c = (st q).B.length + slotAt G.md is p) → μ' l c = μ l c) → (vv p ≠ .un → Rep w' O' X' μ' (vv p) u) → K (a.put x.d u) w' := by
    intro hm w' O' X' μ' u k1 k2 k3 k4
    have hlt := mk_place hm
    have hmk : mkAt is p = true := by simp [mkAt, hx, hm]
    have hb : isBar G.md x.i = false := by
      cases hkd : x.i.kd <;> simp [isMk, hkd] at hm
      simp [isBar, hkd]
    have hq := i.place r
    have hsl := slot_lt (md := G.md) (is := is) (r := q') (m := p) (by rw [i.q1]; exact hq) hlt hmk
    refine hK _ _ O' X' μ' q q' _ k1 (i.next k r hx hls hb hd k1 k2 (by simp) (fun m h1 h2 h3 => ?_) (fun m h1 h2 h3 h4 h5 => ?_) k4)
    · split
      · rename_i e; subst e; rw [List.getElem?_set_self (by rw [i.len]; exact hsl)]
      · rename_i e
        rw [List.getElem?_set_ne (fun q => e (slot_inj (md := G.md) (is := is) (r := q') (by rw [i.q1]; exact h1) h2 h3 (by rw [i.q1]; exact hq) hlt hmk q.symm))]
    · rw [k3 _ _ (fun e => h4 (slot_inj (md := G.md) (is := is) (r := q') (by rw [i.q1]; exact h1) h2 h3 (by rw [i.q1]; exact hq) hlt hmk (by omega)))]
      exact i.free m h1 h2 h3 h5
  -- it wrote
  have wrote : isBar G.md x.i = true → ∀ (w' : World) (O' X' : Nat → Prop) (μ' : Mu) (u : Value), Ext w O X μ w' O' X' μ' → Mem P G.md w' O' X' μ' H (st (p + 1)).B → (vv p ≠ .un → Rep w' O' X' μ' (vv p) u) → K (a.put x.d u) w' := by
    intro hb w' O' X' μ' u k1 k2 k3
    have e := bar_place hb
    subst e
    obtain ⟨q1, q1', MS', hi⟩ := i.over k t r hx hls hb hd k1 k2 k3
    exact hK _ _ O' X' μ' q1 q1' MS' k1 hi
  have whole : isBar G.md x.i = true → Mem P G.md w O X μ H ((st p).B ++ (st p).S) := fun hb => by
    have e := bar_place hb
    have := i.full t (bar_all hb)
    rw [← e] at this
    rw [← this]
    exact i.mem
  unfold stepD at hstep
  split at hstep
  · -- it is wanted
    rename_i hw
    rw [← hW] at hw
    rw [wanted_of i.sim hc.g hw, if_pos rfl]
    have hop : compOp P o.op = some x.i := hc.op.resolve_left (fun e => by
      rw [e] at hstep
      simp only [Ins.kd] at hstep
      split at hstep <;> cases hstep)
    cases hkd : x.i.kd with
    | r =>
      have hb : isBar G.md x.i = false := by simp [isBar, hkd]
      have hm : isMk x.i = false := by simp [isMk, hkd]
      simp only [hkd] at hstep
      split at hstep
      · rename_i Lm hLm
        split at hstep
        · rename_i v hv
          simp only [Option.some.injEq, Prod.mk.injEq] at hstep
          obtain ⟨hvv, _⟩ := hstep
          rw [← (ev_congr (H := H) (L := Lm) x.i hE).1] at hv
          have hmem : ∃ Lx, Mem P G.md w O X μ H Lx ∧ evR H (ES T (dOf is) vv ls is.length) Lx x.i = some v := by
            cases hst : still x.i with
            | true => exact ⟨_, i.mem, by rw [still_mem hst _ Lm]; exact hv⟩
            | false =>
              cases hf : x.f with
              | true =>
                rw [hf, if_pos rfl] at hLm
                exact ⟨Lm, i.floats k t r hx hf hLm, hv⟩
              | false =>
                rw [hf] at hLm
                simp only [Bool.false_eq_true, if_false, Option.some.injEq] at hLm
                subst hLm
                exact ⟨_, i.reads k t r hx (by simp [Ev.reads, hst, hb, hm]) hf, hv⟩
          obtain ⟨Lx, hmx, hvx⟩ := hmem
          obtain ⟨u, h1, h2⟩ := simR hmx i.sim hop hkd hvx
          refine wp_value hop h1 ?_
          rw [← hc.d]
          exact calm hb hm w u (Ext.refl ..) (fun _ _ => rfl) (by rw [← hvv]; exact h2)
        · cases hstep
      · cases hstep
    | a =>
      have hm : isMk x.i = true := by simp [isMk, hkd]
      have hlt := mk_place hm
      have hmk : mkAt is p = true := by simp [mkAt, hx, hm]
      have hq := i.place r
      have hlo : loAt G.md is p = q := by rw [← i.q1]; exact lo_eq p q' (by omega) (by rw [i.q1]; exact hq)
      have hsl := slot_lt (md := G.md) (is := is) (r := q') (m := p) (by rw [i.q1]; exact hq) hlt hmk
      have hB := (t.base p (by omega)).1
      rw [hlo] at hB
      simp only [hkd] at hstep
      split at hstep
      · rename_i ab pf hv
        simp only [Option.some.injEq, Prod.mk.injEq] at hstep
        obtain ⟨hvv, hst⟩ := hstep
        have hblk : blk G.md is st p = ab := by
          have := t.len p (by omega)
          simp only [blk, ← hst]
          rw [← this]
          simp
        rw [← (ev_congr (H := H) (L := []) x.i hE).2.1] at hv
        obtain ⟨u, w', O', X', μ', h1, h2, h3, h4, h5⟩ := made i.mem i.sim hop hv (b := (st q).B.length + slotAt G.md is p) (L' := (st q).B ++ MS.set (slotAt G.md is p) ab) (i.free p hq hlt hmk r.no) (fun j y ey hl => by
          rw [List.getElem?_append] at ey ⊢
          split at ey
          · rename_i hj; exact .inr ⟨by omega, by rw [if_pos hj]; exact ey⟩
          · rename_i hj
            rcases getElem?_set_of ey with ⟨e1, e2⟩ | ⟨e1, e2⟩
            · exact .inl ⟨by omega, e2⟩
            · exact .inr ⟨by omega, by rw [if_neg hj]; exact e2⟩) (by simp) (by simp only [List.length_append, List.length_set, i.len]; omega)
        refine wp_value hop h1 ?_
        rw [← hc.d]
        rw [← hblk] at h3
        refine made_ hm w' O' X' μ' u h2 h3 h5 (fun _ => ?_)
        rw [← hvv, t.len p (by omega), hB]
        exact h4
      · cases hstep
    | p =>
      simp only [hkd] at hstep
      split at hstep
      · rename_i f as hi
        obtain ⟨c, ho, hcal, has⟩ := comp_call (by rw [← hi]; exact hop)
        have hargs := args_of i.sim has (cap := []) (vs := #[]) rfl (fun i x u e => by simp at e)
        rw [List.append_nil] at hargs
        have hcg : as.map (Od.ev (ES T (dOf is) vv ls is.length)) = as.map (Od.ev (st p).E) := ods_congr fun tm ht => hE tm (by rw [hi]; exact ht)
        rw [hcg] at hargs
        split at hstep
        · rename_i hmd
          have hb : isBar G.md x.i = false := by simp [isBar, hi, isImp, hmd, Ins.kd]
          have hm : isMk x.i = false := by simp [isMk, hkd]
          have hst : still x.i = false := by rw [hi]; rfl
          split at hstep
          · rename_i v hv
            simp only [Option.some.injEq, Prod.mk.injEq] at hstep
            obtain ⟨hvv, _⟩ := hstep
            have hf : x.f = false := by
              cases hf : x.f with
              | false => rfl
              | true => have := (k.floats p x _ hx (ord_at k hp) hf).2.1; rw [hkd] at this; cases this
            have hmx := i.reads k t r hx (by simp [Ev.reads, hst, hb, hm]) hf
            obtain ⟨h1, h2⟩ := pcall_sound hs hmx hv hargs
            refine wp_enters hop (run_call ho hcal rfl h1 w) (h2.mono fun e w' he => ?_)
            obtain ⟨u, rfl, k1, k2, k3⟩ := he
            refine ⟨u, rfl, ?_⟩
            rw [← hc.d]
            exact calm hb hm w' u k1 k2 (by rw [← hvv]; exact k3)
          · cases hstep
        · rename_i hmd
          have hb : isBar G.md x.i = true := by simp [isBar, hi, isImp, hmd, Ins.kd]
          split at hstep
          · rename_i v M hv
            split at hv
            · cases hv
            rename_i hyf
            simp only [Option.some.injEq, Prod.mk.injEq] at hstep
            obtain ⟨hvv, hst⟩ := hstep
            obtain ⟨h1, h2⟩ := hs _ _ _ _ _ _ hv hyf
            refine wp_enters hop (run_call ho hcal rfl h1 w) ((h2 w O X μ _ (whole hb) hargs).mono fun e w' he => ?_)
            obtain ⟨u, rfl, O', X', μ', k1, k2, k3⟩ := he
            refine ⟨u, rfl, ?_⟩
            rw [← hc.d]
            exact wrote hb w' O' X' μ' u k1 (by rw [← hst]; exact k2) (by rw [← hvv]; exact k3)
          · cases hstep
      · cases hstep
    | q =>
      have hb : isBar G.md x.i = false := by simp [isBar, hkd]
      have hm : isMk x.i = false := by simp [isMk, hkd]
      simp only [hkd] at hstep
      split at hstep
      · rename_i y as hi
        obtain ⟨c, xx, ho, hcal, hxx, has⟩ := comp_ccall (by rw [← hi]; exact hop)
        have hst : still x.i = false := by rw [hi]; rfl
        have hcg : as.map (Od.ev (ES T (dOf is) vv ls is.length)) = as.map (Od.ev (st p).E) := ods_congr fun tm ht => hE tm (by rw [hi]; exact List.mem_append.2 (.inr ht))
        have hyg : y.ev (ES T (dOf is) vv ls is.length) = y.ev (st p).E := od_congr fun tm ht => hE tm (by rw [hi]; exact List.mem_append.2 (.inl ht))
        split at hstep
        · rename_i f cap hfn
          rw [← hyg] at hfn
          obtain ⟨vs, g1, g2, g3⟩ := rep_fn i.sim hxx hfn
          have hargs := args_of i.sim has g2 g3
          rw [hcg] at hargs
          split at hstep
          · split at hstep
            · rename_i v hv
              simp only [Option.some.injEq, Prod.mk.injEq] at hstep
              obtain ⟨hvv, _⟩ := hstep
              have hf : x.f = false := by
                cases hf : x.f with
                | false => rfl
                | true => have := (k.floats p x _ hx (ord_at k hp) hf).2.1; rw [hkd] at this; cases this
              have hmx := i.reads k t r hx (by simp [Ev.reads, hst, hb, hm]) hf
              obtain ⟨h1, h2⟩ := pcall_sound hs hmx hv hargs
              refine wp_enters hop (run_call ho hcal g1 h1 w) (h2.mono fun e w' he => ?_)
              obtain ⟨u, rfl, k1, k2, k3⟩ := he
              refine ⟨u, rfl, ?_⟩
              rw [← hc.d]
              exact calm hb hm w' u k1 k2 (by rw [← hvv]; exact k3)
            · cases hstep
          · cases hstep
        · cases hstep
      · cases hstep
    | w =>
      have hb : isBar G.md x.i = true := by simp [isBar, hkd]
      simp only [hkd] at hstep
      split at hstep
      · rename_i v M hv
        simp only [Option.some.injEq, Prod.mk.injEq] at hstep
        obtain ⟨hvv, hst⟩ := hstep
        rw [← (ev_congr (H := H) (L := (st p).B ++ (st p).S) x.i hE).2.2] at hv
        obtain ⟨nx, w', O', X', μ', h1, h2, h3, h4⟩ := simW (whole hb) i.sim hop hkd hv
        have hM : Mem P G.md w' O' X' μ' H (st (p + 1)).B := by rw [← hst]; exact h4
        rcases h2 with ⟨rfl, h5⟩ | ⟨u, rfl, h5⟩
        · refine wp_skips hop h1 ?_
          rw [← hc.d]
          exact wrote hb w' O' X' μ' undef h3 hM (fun hn => absurd (by rw [← hvv]; exact h5) hn)
        · refine wp_value hop h1 ?_
          rw [← hc.d]
          exact wrote hb w' O' X' μ' u h3 hM (by rw [← hvv]; exact h5)
      · cases hstep
  · -- it isn't
    rename_i hw
    rw [← hW] at hw
    rw [wanted_of i.sim hc.g hw, if_neg (by simp), ← hc.d]
    refine ⟨fun _ _ => trivial, ?_⟩
    simp only [Option.some.injEq, Prod.mk.injEq] at hstep
    obtain ⟨hvv, hst⟩ := hstep
    have hund : vv p ≠ .un → Rep w O X μ (vv p) undef := fun _ => by rw [← hvv]; exact rep_undef
    cases hb : isBar G.md x.i with
    | true =>
      rw [hb, if_pos rfl] at hst
      exact wrote hb w O X μ undef (Ext.refl ..) (by rw [← hst]; exact whole hb) hund
    | false =>
      rw [hb] at hst
      cases hm : isMk x.i with
      | false => exact calm hb hm w undef (Ext.refl ..) (fun _ _ => rfl) hund
      | true =>
        have hlt := mk_place hm
        have hmk : mkAt is p = true := by simp [mkAt, hx, hm]
        have hq := i.place r
        have hsl := slot_lt (md := G.md) (is := is) (r := q') (m := p) (by rw [i.q1]; exact hq) hlt hmk
        have hblk : blk G.md is st p = .dead := by
          have := t.len p (by omega)
          simp only [Bool.false_eq_true, if_false, hm, if_true] at hst
          simp only [blk, ← hst]
          rw [← this]
          simp
        have hset : MS.set (slotAt G.md is p) (blk G.md is st p) = MS := by
          have := i.get p hq hlt hmk
          rw [r.no] at this
          simp only [Bool.false_eq_true, if_false] at this
          rw [hblk]
          apply List.ext_getElem?
          intro s
          by_cases e : slotAt G.md is p = s
          · subst e; rw [List.getElem?_set_self (by rw [i.len]; exact hsl), this]
          · rw [List.getElem?_set_ne e]
        exact made_ hm w O X μ undef (Ext.refl ..) (by rw [hset]; exact i.mem) (fun _ _ _ => rfl) hund
  · cases hstep

theorem count_set {n i : Nat} {f g : Nat → Bool} (hi : i < n) (hf : f i = true) (hg : ∀ j, g j = if j = i then false else f j) : (List.range n).countP g + 1 = (List.range n).countP f := by
  induction n with
  | zero => omega
  | succ n ih =>
    rw [List.range_succ, List.countP_append, List.countP_append]
    by_cases e : i = n
    · subst e
      have h1 : (List.range i).countP g = (List.range i).countP f := by
        refine List.countP_congr (fun j hj => ?_)
        rw [hg j, if_neg (by have := List.mem_range.1 hj; omega)]
      have h2 := hg i
      rw [if_pos rfl] at h2
      simp [h1, h2, hf]
    · have h1 := ih (by omega)
      have h2 := hg n
      rw [if_neg (fun q => e q.symm)] at h2
      simp only [List.countP_singleton, h2]
      omega

theorem all_of_count {n : Nat} {f : Nat → Bool} (h : (List.range n).countP f = 0) : ∀ i < n, f i = false := by
  intro i hi
  have := (List.countP_eq_zero.1 h) i (List.mem_range.2 hi)
  simpa using this

/-- Whatever order is drawn. -/
theorem drawn (k : DOk G.md ops b ord is) (t : Tr G call H is st vv) (h0 : (st 0).E = T) (hs : SoundC P G.md call) (hcomp : ∀ (p i : Nat) (x : I), is[p]? = some x → ord[p]? = some i → ∃ o, ops[i]? = some o ∧ Comp1 P nt ops o x) {Q : Exit → Act → World → Prop} {w0 : World} {O0 X0 : Nat → Prop} {μ0 : Mu}
    (hQ : ∀ a' w' O' X' μ', Ext w0 O0 X0 μ0 w' O' X' μ' → Mem P G.md w' O' X' μ' H ((st is.length).B ++ (st is.length).S) → SimT w' O' X' μ' (st is.length).E a' → St nt ds a' → Q .normal a' w') :
    ∀ (fuel : Nat) (listed : Array Bool) (a : Act) (w : World) (O X : Nat → Prop) (μ : Mu) (q q' : Nat) (MS : Lv), listed.size = ops.size → (List.range ops.size).countP (fun i => !listed.getD i false) ≤ fuel →
      (∀ j i, j < ops.size → i < ops.size → listed.getD j false = true → bit b j i = true → listed.getD i false = true) → Ext w0 O0 X0 μ0 w O X μ → Inv P G H is st vv T nt ds (fun p => listed.getD (ord.getD p 0) false) a w O X μ q q' MS → wpAnyIn (rf r0) n0 P .any ops Q fuel listed a w := by
  intro fuel
  -- the end
  have fin : ∀ (listed : Array Bool) (a : Act) (w : World) (O X : Nat → Prop) (μ : Mu) (q q' : Nat) (MS : Lv), (∀ i, i < ops.size → listed.getD i false = true) → Ext w0 O0 X0 μ0 w O X μ →
      Inv P G H is st vv T nt ds (fun p => listed.getD (ord.getD p 0) false) a w O X μ q q' MS → Q .normal a w := by
    intro listed a w O X μ q q' MS hall he i
    have hl : ∀ p, p < is.length → listed.getD (ord.getD p 0) false = true := fun p hp => hall _ (k.lt p _ (ord_at k hp))
    have hq' : q' = is.length := by
      rcases Nat.lt_or_ge q' is.length with h | h
      · have h1 := i.notb h
        have h2 := hl q' h
        rw [h2] at h1; cases h1
      · have := i.q2; omega
    subst hq'
    have hf := i.full t (fun m _ hm => hl m hm)
    refine hQ a w O X μ he (by rw [← hf]; exact i.mem) (fun tm hn => ?_) i.room
    rw [tr_env t h0 _ (Nat.le_refl _)] at hn ⊢
    rw [← lk_ES (ls := fun p => listed.getD (ord.getD p 0) false) _ (fun j hj _ => hl j hj)] at hn ⊢
    exact i.sim tm hn
  -- whatever isn't ready: all has come
  have none_ : ∀ listed : Array Bool, Region.ready .any ops listed = [] → listed.size = ops.size → ∀ i, i < ops.size → listed.getD i false = true := by
    intro listed hr hsz i
    induction i using Nat.strongRecOn with
    | _ i ih =>
      intro hi
      cases hli : listed.getD i false with
      | true => rfl
      | false =>
        exfalso
        have : i ∈ Region.ready .any ops listed := by
          unfold Region.ready
          rw [List.mem_filter]
          refine ⟨List.mem_range.2 hi, ?_⟩
          have ho := Array.getElem?_eq_getElem hi
          have hli' : listed.getD i true = false := by
            rw [Array.getD_eq_getD_getElem?] at hli ⊢
            rw [Array.getElem?_eq_getElem (by rw [hsz]; exact hi)] at hli ⊢
            exact hli
          rw [ho, hli']
          simp only [Bool.not_false, Option.map_some, Option.getD_some, Bool.true_and, Array.all_eq_true_iff_forall_mem, Bool.or_eq_true, Bool.not_eq_true']
          intro e he
          cases hb : Region.binds .any e with
          | false => exact .inl rfl
          | true =>
            have := k.edge i _ ho e he hb
            exact .inr (ih e.on this (by omega))
        rw [hr] at this
        cases this
  induction fuel with
  | zero =>
    intro listed a w O X μ q q' MS hsz hcnt hcl he i
    have hall : ∀ i, i < ops.size → listed.getD i false = true := fun i hi => by
      have := all_of_count (by omega : (List.range ops.size).countP (fun i => !listed.getD i false) = 0) i hi
      simpa using this
    refine ⟨?_, fin listed a w O X μ q q' MS hall he i⟩
    unfold Region.ready
    rw [List.filter_eq_nil_iff]
    intro j hj
    have hj' := List.mem_range.1 hj
    have := hall j hj'
    rw [Array.getD_eq_getD_getElem?, Array.getElem?_eq_getElem (by rw [hsz]; exact hj')] at this
    rw [Array.getD_eq_getD_getElem?, Array.getElem?_eq_getElem (by rw [hsz]; exact hj')]
    simp only [Option.getD_some] at this ⊢
    rw [this]
    simp
  | succ fuel ih =>
    intro listed a w O X μ q q' MS hsz hcnt hcl he i
    refine ⟨fun hr => fin listed a w O X μ q q' MS (none_ listed hr hsz) he i, fun j hj => ?_⟩
    unfold Region.ready at hj
    rw [List.mem_filter] at hj
    obtain ⟨hj1, hj2⟩ := hj
    have hjn := List.mem_range.1 hj1
    have ho := Array.getElem?_eq_getElem hjn
    rw [ho] at hj2
    simp only [Option.map_some, Option.getD_some, Bool.and_eq_true, Bool.not_eq_true', Array.all_eq_true_iff_forall_mem, Bool.or_eq_true] at hj2
    obtain ⟨hno, hafter⟩ := hj2
    have hno' : listed.getD j false = false := by
      rw [Array.getD_eq_getD_getElem?] at hno ⊢
      rw [Array.getElem?_eq_getElem (by rw [hsz]; exact hjn)] at hno ⊢
      exact hno
    have hpre : ∀ i, i < ops.size → bit b j i = true → listed.getD i false = true := by
      intro i hi hb
      obtain ⟨e, he1, he2, he3⟩ := k.tab j i _ ho hi hb
      have hon : listed.getD e.on false = true := by
        rcases hafter e he1 with q | q
        · rw [he2] at q; cases q
        · exact q
      rcases he3 with rfl | he3
      · exact hon
      · have := k.edge j _ ho e he1 he2
        exact hcl e.on i (by omega) hi hon he3
    -- its place
    obtain ⟨p, hp⟩ := List.getElem?_of_mem (k.all j hjn)
    have hpl : p < is.length := by rw [k.li, ← k.lo]; exact (List.getElem?_eq_some_iff.1 hp).1
    have hpj : ord.getD p 0 = j := by rw [List.getD_eq_getElem?_getD, hp]; rfl
    have hx := List.getElem?_eq_getElem hpl
    obtain ⟨o, ho', hc⟩ := hcomp p j _ hx hp
    rw [ho] at ho'
    simp only [Option.some.injEq] at ho'
    subst ho'
    have hplt : ∀ m, m < is.length → ord.getD m 0 < ops.size := fun m hm => k.lt m _ (ord_at k hm)
    have r : Rdy b ord is.length (fun p => listed.getD (ord.getD p 0) false) p := ⟨hpl, by simp only [hpj]; exact hno', fun m hm hb => hpre _ (hplt m hm) (by rw [← hpj]; exact hb), fun m hm hb => by
      cases hl : listed.getD (ord.getD m 0) false with
      | false => rfl
      | true =>
        have := hcl _ _ (hplt m hm) (hplt p hpl) hl hb
        rw [hpj, hno'] at this; cases this⟩
    have hset : ∀ m, (listed.setIfInBounds j true).getD m false = if m = j then true else listed.getD m false := by
      intro m
      rw [Array.getD_eq_getD_getElem?, Array.getD_eq_getD_getElem?, Array.getElem?_setIfInBounds]
      by_cases e : j = m
      · subst e; simp [hsz, hjn]
      · rw [if_neg e, if_neg (fun q => e q.symm)]
    have hls : ∀ m, m < is.length → (listed.setIfInBounds j true).getD (ord.getD m 0) false = if m = p then true else listed.getD (ord.getD m 0) false := by
      intro m hm
      rw [hset]
      by_cases e : m = p
      · subst e; rw [if_pos hpj, if_pos rfl]
      · rw [if_neg e, if_neg (fun q => ?_)]
        rcases Nat.lt_trichotomy m p with h | h | h
        · exact k.ne m p _ _ h (ord_at k hm) (ord_at k hpl) (by rw [q, hpj])
        · exact e h
        · exact k.ne p m _ _ h (ord_at k hpl) (ord_at k hm) (by rw [q, hpj])
    unfold wpOpIn
    rw [ho]
    refine i.step k t h0 hs r hx hc hls (fun a' w' O' X' μ' q1 q1' MS' he' hi' => ?_)
    refine ih (listed.setIfInBounds j true) a' w' O' X' μ' q1 q1' MS' (by simpa using hsz) ?_ (fun j2 i2 hj2 hi2 hl hb => ?_) (he.trans he') hi'
    · have := count_set (f := fun i => !listed.getD i false) (g := fun i => !(listed.setIfInBounds j true).getD i false) hjn (by simp [hno']) (fun m => by rw [hset]; split <;> simp)
      omega
    · rw [hset] at hl ⊢
      split
      · rfl
      · split at hl
        · rename_i e; subst e; exact hpre i2 hi2 hb
        · exact hcl j2 i2 hj2 hi2 hl hb

theorem simD (hm : P.follows .mixedOrders = true) {G : GP} {call : CallT} (hs : SoundC P G.md call) {nt : Nat} {ds : List Deferred} {r0 : Option Nat} {n0 : Nat} {ops : Array Oper} {is : List I} (hc : compReg P G.md nt ops true = some is) {id : Nat} {Q : Exit → Act → World → Prop} {T : Tm} {a : Act} {σ : DS}
    (h : evD G call H is ⟨T, L, [], none⟩ = some σ) (m : Mem P G.md w O X μ H L) (hE : SimT w O X μ T a) (ha : St nt ds a)
    (hQ : ∀ a' w' O' X' μ', Ext w O X μ w' O' X' μ' → Mem P G.md w' O' X' μ' H (σ.B ++ σ.S) → SimT w' O' X' μ' σ.E a' → St nt ds a' → Q .normal a' w') : (Code.region id ops true).wpIn (rf r0) n0 P Q a w := by
  unfold compReg at hc
  split at hc
  · rename_i is0 his0
    simp only [if_true] at hc
    split at hc
    · rename_i js hjs
      split at hc
      · rename_i hok
        simp only [Option.some.injEq] at hc
        generalize hord : order (Region.before ops) ops.size _ = ord at *
        rw [hc] at hok
        have k := dok_of hok
        obtain ⟨st, vv, e0, e1, e2⟩ := evD_trace is _ _ h
        have t : Tr G call H is st vv := ⟨by rw [e0], e2⟩
        have hcomp : ∀ (p i : Nat) (x : I), is[p]? = some x → ord[p]? = some i → ∃ o, ops[i]? = some o ∧ Comp1 P nt ops o x := by
          intro p i x hx hi
          rw [← hc] at hx
          simp only [List.getElem?_map, Option.map_eq_some_iff] at hx
          obtain ⟨⟨⟨y, i'⟩, p'⟩, hy, rfl⟩ := hx
          rw [List.getElem?_zipIdx] at hy
          simp only [Option.map_eq_some_iff, Prod.mk.injEq] at hy
          obtain ⟨⟨y2, i2⟩, hz, ⟨rfl, rfl⟩, rfl⟩ := hy
          obtain ⟨hz1, hz2⟩ := List.getElem?_zip_eq_some.1 hz
          rw [hi] at hz2
          simp only [Option.some.injEq] at hz2
          subst hz2
          obtain ⟨j, hj, hy0⟩ := allM_get hjs hz1
          rw [hi] at hj
          simp only [Option.some.injEq] at hj
          subst hj
          obtain ⟨o, ho, hco⟩ := all2_get (comp_all his0) _ _ hy0
          exact ⟨o, by simpa using ho, hco.op, hco.g, hco.d, hco.lt⟩
        refine wpIn_region_any hm ?_
        have hd : Ext w O X μ { w with drawn := w.drawn + 1 } O X μ := ⟨fun _ _ _ h => h, fun _ _ _ h k => (by rw [h] at k; cases k), rfl, rfl, rfl, Nat.le_refl _, fun _ _ _ => rfl, fun _ _ => rfl, fun _ h => h, fun _ h => .inl h, fun _ h => h, fun _ h => .inl h⟩
        have md : Mem P G.md { w with drawn := w.drawn + 1 } O X μ H L := m.stays hd (fun _ _ => rfl)
        obtain ⟨r1, h1, h2, h3, h4⟩ := next_bar (md := G.md) (is := is) is.length _ 0 rfl (Nat.zero_le _)
        refine drawn (T := T) k t (by rw [e0]) hs hcomp (w0 := w) (O0 := O) (X0 := X) (μ0 := μ) (by rw [e1]; exact hQ) ops.size _ a _ O X μ 0 r1 (List.replicate (slotAt G.md is r1) .dead) (by simp) (by
          have := List.countP_le_length (p := fun i => !(Array.replicate ops.size false).getD i false) (l := List.range ops.size)
          simpa using this) (fun j i hj _ hl => by simp [Array.getD_eq_getD_getElem?, hj] at hl) hd ?_
        have none_ : ∀ p, p < is.length → (Array.replicate ops.size false).getD (ord.getD p 0) false = false := fun p _ => by
          rw [Array.getD_eq_getD_getElem?, Array.getElem?_replicate]
          split <;> rfl
        refine ⟨h3, h2, h4, fun p hp => by omega, fun hq => none_ _ hq, ?_, by simp, fun mm k1 k2 k3 => ?_, fun mm k1 k2 k3 k4 => ?_, fun tm hn => ?_, ha⟩
        · refine md.weaken (by simp [e0]) (fun c y e hl => ?_)
          rw [List.getElem?_append] at e
          split at e
          · rw [e0] at e; exact e
          · rw [List.getElem?_replicate] at e
            split at e
            · simp only [Option.some.injEq] at e; subst e; exact hl.elim
            · cases e
        · rw [none_ mm (by omega)]
          have := slot_lt (md := G.md) (is := is) (r := r1) (m := mm) (by rw [h3]; exact Nat.zero_le _) k2 k3
          simp [this]
        · exact m.dom _ (by rw [e0]; exact Nat.le_add_right _ _)
        · have he : lk (ES T (dOf is) vv (fun p => (Array.replicate ops.size false).getD (ord.getD p 0) false) is.length) tm = lk (ES T (dOf is) vv (fun j => decide (j < 0)) is.length) tm := lk_ES _ (fun j hj _ => by rw [none_ j hj]; simp)
          rw [ES_pre is.length 0 (Nat.zero_le _)] at he
          rw [he] at hn ⊢
          exact (hE.ext m.xo hd) tm hn
      · cases hc
    · cases hc
  · cases hc

end
end Go.Ev
