/- Versions. -/
import Derived.Test.YtiplefdmpcjgcaaGreatDbE
import Derived.Test.YtiplefdmpcjgcaaGreatDbTicks
namespace Go.Ev.S
open Go Go.Ev

theorem sameL_refl : ∀ l : List Pl, sameL l l = true
  | [] => rfl
  | p :: r => by simp [sameL, sameL_refl r, Pl.same, Mb.same]

theorem Dbs.same_m (d : Dbs) (fl fl' : SM) : Dbs.same { d with m := fl } { d with m := fl' } = true := by
  simp [Dbs.same, sameL_refl]

def keyP (p : Pl) : Int × Int := (p.port, p.mb.g)

theorem lexP_key {p q p' q' : Pl} (h1 : keyP p = keyP p') (h2 : keyP q = keyP q') (h : lexP p q) : lexP p' q' := by
  simp only [keyP, Prod.mk.injEq] at h1 h2
  unfold lexP at *
  omega

theorem lexP_set {l : List Pl} (h : l.Pairwise lexP) {i : Nat} (hi : i < l.length) {q : Pl} (hq : keyP q = keyP l[i]) : (l.set i q).Pairwise lexP := by
  have hk : ∀ (j : Nat) (hj : j < (l.set i q).length), keyP (l.set i q)[j] = keyP (l[j]'(by simpa using hj)) := fun j hj => by
    rw [List.getElem_set]
    split
    · rename_i e; subst e; exact hq
    · rfl
  rw [List.pairwise_iff_getElem] at h ⊢
  intro a b ha hb hab
  exact lexP_key (hk a ha).symm (hk b hb).symm (h a b (by simpa using ha) (by simpa using hb) hab)

theorem hasP_at {l : List Pl} (h : l.Pairwise lexP) {i : Nat} (hi : i < l.length) {port g : Int} (hp : l[i].port = port) (hg : l[i].mb.g = g) : posP l port g = i ∧ hasP l port g = true := by
  have hpos := posP_at h hi hp hg
  refine ⟨hpos, ?_⟩
  have hc : cmpP port g l[i] = 0 := cmpP_zero.2 ⟨hp, hg⟩
  simp only [hasP, hpos, List.getElem?_eq_getElem hi, hc]
  simp

theorem Dbs.right_keep {d : Dbs} (h : d.right = true) : 0 < d.keep := by
  simp only [Dbs.right, Bool.and_eq_true, decide_eq_true_eq] at h
  omega

structure Vin where
  d : Dbs
  port : Int
  g : Int
  src : Int

def Vin.av (v : Vin) : List AV := [.int .i64 v.d.keep, .int .i64 v.d.last, .int .i64 v.d.limit, .sl v.d.m (v.d.l.map Pl.av), .int .i64 v.port, .int .u32 v.g, .int .u32 v.src]

theorem versions_law (x : Vin) (hx : x.d.wf ∧ x.d.m.b = false ∧ ∀ p ∈ x.d.l, p.mb.m.b = false) : ∃ v L', callW G 4 [.agg x.av] [] [] = some (v, L') ∧ v = .bool true := by
  obtain ⟨d, port, g, src⟩ := x
  obtain ⟨hd, hdm, hdb⟩ := hx
  simp only at hd hdm hdb
  refine call_of_wp rfl rfl ?_
  have hsh := shown_c
  have hf := fun H L => few_c H L d hd
  have hr := fun H L => right9_c H L d
  simp only [Dbs.av] at hf hr
  by_cases h1 : d.l.length + tot d.l ≤ 2000
  · simp only [h1, decide_true] at hf
    cases h2 : d.right with
    | false =>
      simp only [h2] at hr
      simp [f4r0, f4r1, f4r2, f4r3, f4r4, f4r5, f4r6, f4r7, Vin.av, hsh, hf, hr]
    | true =>
      simp only [h2] at hr
      by_cases hp0 : port < 0
      · simp [f4r0, f4r1, f4r2, f4r3, f4r4, f4r5, f4r6, f4r7, Vin.av, hsh, hf, hr, hp0]
      · by_cases hp1 : 63 < port
        · simp [f4r0, f4r1, f4r2, f4r3, f4r4, f4r5, f4r6, f4r7, Vin.av, hsh, hf, hr, hp0, hp1]
        · have hlex := Dbs.right_lex h2
          have hlen := Dbs.right_len h2
          have hw := fun H L => wants18_c H L d port g src (by omega) (mono_P hlex _ _) (fun p hp => ⟨by have := (Mb.right_ok (Dbs.right_mem h2 p hp).1).len; omega, mono_H (Mb.right_lt (Dbs.right_mem h2 p hp).1) _⟩)
          simp only [Dbs.av] at hw
          cases h3 : d.wants port g src with
          | false =>
            simp only [h3] at hw
            simp [f4r0, f4r1, f4r2, f4r3, f4r4, f4r5, f4r6, f4r7, Vin.av, hsh, hf, hr, hp0, hp1, hw]
          | true =>
            simp only [h3] at hw
            obtain ⟨p, hp, hpp, hpg, hpw⟩ := (Dbs.wants_iff hlex port g src).1 h3
            obtain ⟨i, hi, rfl⟩ := List.getElem_of_mem hp
            obtain ⟨hpos, hhas⟩ := hasP_at hlex hi hpp hpg
            have hv1 := fun H L => hear14_v1 H L d port g (by omega) (by omega) i hi hpos hhas (by omega) (by have := (Mb.right_ok (Dbs.right_mem h2 _ (List.getElem_mem hi)).1).len; omega) (mono_P hlex _ _) hpp hpg hdb
            simp only [Dbs.av] at hv1
            simp [f4r0, f4r1, f4r2, f4r3, f4r4, f4r5, f4r6, f4r8, Vin.av, hsh, hf, hr, hp0, hp1, hw]
            refine gO_pex (hv1 _ _) (fun fl hfl => ?_)
            obtain ⟨q, hq⟩ : ∃ q : Pl, q = { port := d.l[i].port, v1 := d.keep, v2 := d.l[i].v2, mb := { g := d.l[i].mb.g, ex := true, left := d.keep, m := fl.2, srcs := [] } } := ⟨_, rfl⟩
            obtain ⟨l', hl'⟩ : ∃ l', l' = d.l.set i q := ⟨_, rfl⟩
            simp only [← hq, ← hl']
            have hi' : i < l'.length := by rw [hl']; simpa using hi
            have hlq : l'[i] = q := by subst hl'; simp
            have hlen' : l'.length = d.l.length := by rw [hl']; simp
            have hlex' : l'.Pairwise lexP := by rw [hl']; exact lexP_set hlex hi (by rw [hq]; rfl)
            have qp : q.port = port := by rw [hq]; exact hpp
            have qg : q.mb.g = g := by rw [hq]; exact hpg
            have qv : q.v1 = d.keep := by rw [hq]
            have qe : q.mb.ex = true := by rw [hq]
            have qs : q.mb.srcs = [] := by rw [hq]
            have qm : q.mb.m.b = false := by rw [hq]; exact hfl.2
            have hkeep : 0 < d.keep := Dbs.right_keep h2
            obtain ⟨hpos', hhas'⟩ := hasP_at (port := port) (g := g) hlex' hi' (by rw [hlq]; exact qp) (by rw [hlq]; exact qg)
            have hmem : ∀ p ∈ l', p ∈ d.l ∨ p = q := fun p hp => by rw [hl'] at hp; exact List.mem_or_eq_of_mem_set hp
            have hsl : ∀ p ∈ l', p.mb.srcs.length ≤ 64 ∧ p.mb.srcs.Pairwise (fun x y => x.a < y.a) := fun p hp => by
              rcases hmem p hp with hp | rfl
              · exact ⟨(Mb.right_ok (Dbs.right_mem h2 p hp).1).len, Mb.right_lt (Dbs.right_mem h2 p hp).1⟩
              · rw [qs]; exact ⟨by simp, .nil⟩
            have hlb : ∀ p ∈ l', p.mb.m.b = false := fun p hp => by
              rcases hmem p hp with hp | rfl
              · exact hdb p hp
              · exact qm
            have hlv := fun H L => hear14_leave H L ⟨d.keep, d.last, d.limit, fl.1, l'⟩ port g (by omega) (by omega) i hi' hpos' hhas' (by simp only; omega) (by simp only [hlq, qs]; simp) (mono_P hlex' _ _) (by rw [hlq]; exact qp) (by rw [hlq]; exact qg) hlb (by simp only [hlq, qv]; exact hkeep) (by simp only [hlq, qe]; rfl)
            simp only [Dbs.av] at hlv
            simp [f4r9]
            refine gO_pex (hlv _ _) (fun fl2 hfl2 => ?_)
            have hs9 := fun H L => same9_c H L ⟨d.keep, d.last, d.limit, fl.1, l'⟩ ⟨d.keep, d.last, d.limit, fl2, l'⟩ (by simp only; omega) (fun p hp => by have := (hsl p hp).1; omega)
            have hsm := Dbs.same_m ⟨d.keep, d.last, d.limit, fl.1, l'⟩ fl.1 fl2
            simp only [hsm] at hs9
            have hw9 := fun H L => wants18_c H L ⟨d.keep, d.last, d.limit, fl2, l'⟩ port g src (by simp only; omega) (mono_P hlex' _ _) (fun p hp => ⟨by have := (hsl p hp).1; omega, mono_H (hsl p hp).2 _⟩)
            have hwb : Dbs.wants ⟨d.keep, d.last, d.limit, fl2, l'⟩ port g src = true := by
              rw [Dbs.wants_iff hlex']
              refine ⟨q, by rw [← hlq]; exact List.getElem_mem hi', qp, qg, ?_⟩
              simp [Mb.wants, qe, qs, hasH]
            simp only [hwb] at hw9
            simp only [Dbs.av] at hs9 hw9
            have h00 : IntKind.i64.wrap 0 = 0 := by decide
            simp [f4r10, f4r12, nilS, hs9, hw9, h00]
  · simp only [h1, decide_false] at hf
    simp [f4r0, f4r1, f4r2, f4r3, f4r4, f4r5, f4r6, f4r7, Vin.av, hsh, hf]

end Go.Ev.S
