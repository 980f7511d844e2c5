/- Plain laws: order of places; ports; the last tick. -/
import Derived.Test.YtiplefdmpcjgcaaGreatDbP3
namespace Go.Ev.S
open Go Go.Ev

def lexP (q p : Pl) : Prop := q.port < p.port ∨ (q.port = p.port ∧ q.mb.g < p.mb.g)

theorem lexP.trans {a b c : Pl} (h : lexP a b) (k : lexP b c) : lexP a c := by
  unfold lexP at *; omega

theorem okP_lex {q p : Pl} (h : okP (some q) p = true) : lexP q p := by
  simp only [okP, Bool.and_eq_true, Bool.not_eq_true', Bool.or_eq_false_iff, Bool.and_eq_false_iff, decide_eq_false_iff_not] at h
  have := h.2
  unfold lexP
  omega

theorem allP_lex : ∀ (l : List Pl) (q : Option Pl), allP q l = true → l.Pairwise lexP ∧ ∀ q0, q = some q0 → ∀ p ∈ l, lexP q0 p
  | [], _, _ => ⟨.nil, fun _ _ p h => by simp at h⟩
  | a :: r, q, h => by
    simp only [allP, Bool.and_eq_true] at h
    obtain ⟨k1, k2⟩ := allP_lex r _ h.2
    refine ⟨List.pairwise_cons.2 ⟨fun p hp => k2 a rfl p hp, k1⟩, fun q0 hq p hp => ?_⟩
    subst hq
    have ha := okP_lex h.1
    simp only [List.mem_cons] at hp
    rcases hp with rfl | hp
    · exact ha
    · exact ha.trans (k2 a rfl p hp)

theorem Dbs.right_lex {d : Dbs} (h : d.right = true) : d.l.Pairwise lexP := by
  simp only [Dbs.right, Bool.and_eq_true] at h
  exact (allP_lex _ _ h.2).1

theorem okH_lt {ex : Bool} {q p : Hd} (h : okH ex (some q) p = true) : q.a < p.a := by
  simp only [okH, Bool.and_eq_true, decide_eq_true_eq] at h
  exact h.2

theorem allH_lt (ex : Bool) : ∀ (l : List Hd) (q : Option Hd), allH ex q l = true → l.Pairwise (fun x y => x.a < y.a) ∧ ∀ q0, q = some q0 → ∀ p ∈ l, q0.a < p.a
  | [], _, _ => ⟨.nil, fun _ _ p h => by simp at h⟩
  | a :: r, q, h => by
    simp only [allH, Bool.and_eq_true] at h
    obtain ⟨k1, k2⟩ := allH_lt ex r _ h.2
    refine ⟨List.pairwise_cons.2 ⟨fun p hp => k2 a rfl p hp, k1⟩, fun q0 hq p hp => ?_⟩
    subst hq
    have ha := okH_lt h.1
    simp only [List.mem_cons] at hp
    rcases hp with rfl | hp
    · exact ha
    · exact Int.lt_trans ha (k2 a rfl p hp)

theorem Mb.right_lt {m : Mb} (h : m.right = true) : m.srcs.Pairwise (fun x y => x.a < y.a) := by
  simp only [Mb.right, Bool.and_eq_true] at h
  exact (allH_lt _ _ _ h.2).1

theorem cmp3_neg {a b : Int} : cmp3 a b < 0 ↔ a < b := by
  unfold cmp3
  repeat' split
  all_goals omega

theorem cmp3_zero {a b : Int} : cmp3 a b = 0 ↔ a = b := by
  unfold cmp3
  repeat' split
  all_goals omega

theorem mono_H {l : List Hd} (h : l.Pairwise (fun x y => x.a < y.a)) (a : Int) : Mono (cmpH a) l := by
  intro i j hi hj hij hc
  have := List.pairwise_iff_getElem.1 h i j hi hj hij
  simp only [cmpH, cmp3_neg] at hc ⊢
  omega

theorem cmpP_neg {port g : Int} {p : Pl} : cmpP port g p < 0 ↔ (p.port < port ∨ (p.port = port ∧ p.mb.g < g)) := by
  unfold cmpP
  split
  · rename_i h
    rw [cmp3_zero] at h
    rw [cmp3_neg]
    omega
  · rename_i h
    rw [cmp3_zero] at h
    rw [cmp3_neg]
    omega

theorem cmpP_zero {port g : Int} {p : Pl} : cmpP port g p = 0 ↔ (p.port = port ∧ p.mb.g = g) := by
  unfold cmpP
  split
  · rename_i h
    rw [cmp3_zero] at h
    rw [cmp3_zero]
    omega
  · rename_i h
    constructor
    · intro k; exact absurd k h
    · intro k; rw [cmp3_zero] at h; exact absurd k.1 h

theorem mono_P {l : List Pl} (h : l.Pairwise lexP) (port g : Int) : Mono (cmpP port g) l := by
  intro i j hi hj hij hc
  have := List.pairwise_iff_getElem.1 h i j hi hj hij
  rw [cmpP_neg] at hc ⊢
  unfold lexP at this
  omega

theorem posP_at {l : List Pl} (h : l.Pairwise lexP) {port g : Int} {i : Nat} (hi : i < l.length) (h1 : l[i].port = port) (h2 : l[i].mb.g = g) : posP l port g = i := by
  refine pos_unique (Nat.le_of_lt hi) (fun j hj hji => ?_) (fun _ => ?_)
  · have := List.pairwise_iff_getElem.1 h j i hj hi hji
    rw [cmpP_neg]
    unfold lexP at this
    omega
  · rw [cmpP_neg]
    omega

theorem Dbs.wants_iff {d : Dbs} (h : d.l.Pairwise lexP) (port g src : Int) : d.wants port g src = true ↔ ∃ p ∈ d.l, p.port = port ∧ p.mb.g = g ∧ p.mb.wants src = true := by
  constructor
  · intro hw
    simp only [Dbs.wants, Bool.and_eq_true] at hw
    obtain ⟨h1, h2⟩ := hw
    have hlt := hasP_lt h1
    simp only [hasP, List.getElem?_eq_getElem hlt, decide_eq_true_eq, cmpP_zero] at h1
    simp only [List.getElem?_eq_getElem hlt] at h2
    exact ⟨_, List.getElem_mem hlt, h1.1, h1.2, h2⟩
  · rintro ⟨p, hp, h1, h2, h3⟩
    obtain ⟨i, hi, rfl⟩ := List.getElem_of_mem hp
    have hpos := posP_at h hi h1 h2
    have hc : cmpP port g d.l[i] = 0 := cmpP_zero.2 ⟨h1, h2⟩
    simp only [Dbs.wants, hasP, hpos, List.getElem?_eq_getElem hi, hc, h3]
    simp

theorem mem_portsL {g src n : Int} : ∀ {l : List Pl}, n ∈ portsL g src l ↔ ∃ p ∈ l, p.port = n ∧ p.mb.g = g ∧ p.mb.wants src = true
  | [] => by simp [portsL]
  | p :: r => by
    have ih := mem_portsL (g := g) (src := src) (n := n) (l := r)
    simp only [portsL]
    split
    · rename_i h
      simp only [Bool.and_eq_true, decide_eq_true_eq] at h
      simp only [List.mem_cons, ih, exists_eq_or_imp]
      constructor
      · rintro (rfl | h2)
        · exact .inl ⟨rfl, h.1, h.2⟩
        · exact .inr h2
      · rintro (h2 | h2)
        · exact .inl h2.1.symm
        · exact .inr h2
    · rename_i h
      simp only [Bool.and_eq_true, decide_eq_true_eq] at h
      simp only [List.mem_cons, ih, exists_eq_or_imp]
      constructor
      · intro h2; exact .inr h2
      · rintro (h2 | h2)
        · exact absurd h2.2 h
        · exact h2

theorem portsL_lt {g src : Int} : ∀ {l : List Pl}, l.Pairwise lexP → (portsL g src l).Pairwise (· < ·)
  | [], _ => .nil
  | p :: r, h => by
    obtain ⟨h1, h2⟩ := List.pairwise_cons.1 h
    simp only [portsL]
    split
    · rename_i hp
      simp only [Bool.and_eq_true, decide_eq_true_eq] at hp
      refine List.pairwise_cons.2 ⟨fun n hn => ?_, portsL_lt h2⟩
      obtain ⟨q, hq, rfl, hg, _⟩ := mem_portsL.1 hn
      have := h1 q hq
      unfold lexP at this
      omega
    · exact portsL_lt h2

theorem allP_port : ∀ (l : List Pl) (q : Option Pl), allP q l = true → ∀ p ∈ l, 0 ≤ p.port ∧ p.port ≤ 63
  | [], _, _, h, hh => by simp at hh
  | a :: r, p, hall, h, hh => by
    simp only [allP, Bool.and_eq_true] at hall
    simp only [List.mem_cons] at hh
    rcases hh with rfl | hh
    · have := hall.1
      simp only [okP, Bool.and_eq_true, decide_eq_true_eq] at this
      obtain ⟨⟨⟨⟨⟨⟨⟨⟨h1, h2⟩, h3⟩, h4⟩, _⟩, _⟩, _⟩, _⟩, _⟩ := this
      exact ⟨h3, h4⟩
    · exact allP_port r _ hall.2 h hh

theorem Dbs.right_port {d : Dbs} (h : d.right = true) : ∀ p ∈ d.l, 0 ≤ p.port ∧ p.port ≤ 63 := by
  simp only [Dbs.right, Bool.and_eq_true] at h
  exact allP_port _ _ h.2

theorem sub0_max {x : Int} (h : x ≤ 1000000) : sub0 x 1000000 = 0 := by
  unfold sub0
  split <;> omega

theorem tickH_max : ∀ (l : List Hd), (∀ h ∈ l, h.ok) → tickH false 1000000 l = []
  | [], _ => rfl
  | h :: r, hall => by
    have := (hall h (by simp)).left
    rw [tickH, sub0_max this.2, tickH_max r (fun x hx => hall x (by simp [hx]))]
    rfl

theorem tickP_max : ∀ (l : List Pl), (∀ p ∈ l, p.ok) → tickP 1000000 l = []
  | [], _ => rfl
  | p :: r, hall => by
    have hp := (hall p (by simp)).mb
    have hc : clamp 1000000 = 1000000 := clamp_id (by omega) (by omega)
    have : (p.mb.tick 1000000).some = false := by
      simp only [Mb.some, Mb.tick, hc, sub0_max hp.left.2]
      have : (p.mb.ex && decide ((0 : Int) < 0)) = false := by simp
      rw [this, tickH_max _ hp.srcs]
      rfl
    rw [tickP, this, tickP_max r (fun x hx => hall x (by simp [hx]))]
    rfl

theorem Dbs.tick_max {d : Dbs} (h : d.right = true) : (d.tick 1000000).l = [] := by
  have hc : clamp 1000000 = 1000000 := clamp_id (by omega) (by omega)
  simp only [Dbs.tick, hc]
  exact tickP_max _ (Dbs.right_ok h)

end Go.Ev.S
