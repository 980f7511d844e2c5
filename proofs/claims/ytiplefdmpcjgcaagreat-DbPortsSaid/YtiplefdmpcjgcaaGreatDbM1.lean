import Derived.Test.YtiplefdmpcjgcaaGreatDbT7
namespace Go.Ev.S
open Go Go.Ev

theorem clamp_id {n : Int} (h0 : 0 ≤ n) (h1 : n ≤ 1000000) : clamp n = n := by
  unfold clamp
  rw [if_neg (by omega), if_neg (by omega)]

theorem clamp_neg {n : Int} (h : n ≤ 0) : clamp n = 0 := by
  unfold clamp
  split
  · rfl
  · rw [if_neg (by omega)]; omega

theorem sub0_sub0 {x a b : Int} (hx : x ≤ 1000000) (ha : 0 ≤ a) (hb : 0 ≤ b) : sub0 (sub0 x a) b = sub0 x (clamp (a + b)) := by
  simp only [sub0, clamp]
  repeat' split
  all_goals omega

theorem sub0_zero {x : Int} (hx : 0 ≤ x) : sub0 x 0 = x := by
  simp only [sub0]
  split <;> omega

theorem allH_mem (ex : Bool) : ∀ (l : List Hd) (p : Option Hd), allH ex p l = true → ∀ h ∈ l, 0 ≤ h.left ∧ h.left ≤ 1000000 ∧ (h.left ≠ 0 ∨ ex = true)
  | [], _, _, h, hh => by simp at hh
  | a :: r, p, hall, h, hh => by
    simp only [allH, Bool.and_eq_true] at hall
    simp only [List.mem_cons] at hh
    rcases hh with rfl | hh
    · have := hall.1
      simp only [okH, Bool.and_eq_true, Bool.or_eq_true, decide_eq_true_eq] at this
      exact ⟨this.1.1.1, this.1.1.2, this.1.2⟩
    · exact allH_mem ex r _ hall.2 h hh

theorem Mb.right_ok {m : Mb} (h : m.right = true) : m.ok := by
  simp only [Mb.right, Bool.and_eq_true, decide_eq_true_eq] at h
  obtain ⟨⟨⟨_, h1⟩, h2⟩, h3⟩ := h
  refine ⟨?_, h1, fun x hx => ⟨⟨(allH_mem _ _ _ h3 x hx).1, (allH_mem _ _ _ h3 x hx).2.1⟩⟩⟩
  split at h2
  · simp only [Bool.and_eq_true, decide_eq_true_eq] at h2; omega
  · simp only [decide_eq_true_eq] at h2; omega

theorem allP_mem : ∀ (l : List Pl) (q : Option Pl), allP q l = true → ∀ p ∈ l, p.mb.right = true ∧ p.mb.some = true ∧ (0 ≤ p.v1 ∧ p.v1 ≤ 1000000) ∧ (0 ≤ p.v2 ∧ p.v2 ≤ 1000000)
  | [], _, _, h, hh => by simp at hh
  | a :: r, p, hall, h, hh => by
    simp only [allP, Bool.and_eq_true] at hall
    simp only [List.mem_cons] at hh
    rcases hh with rfl | hh
    · have := hall.1
      simp only [okP, Bool.and_eq_true, decide_eq_true_eq] at this
      obtain ⟨⟨⟨⟨⟨⟨⟨⟨h1, h2⟩, _⟩, _⟩, h3⟩, h4⟩, h5⟩, h6⟩, _⟩ := this
      exact ⟨h1, h2, ⟨h3, h4⟩, ⟨h5, h6⟩⟩
    · exact allP_mem r _ hall.2 h hh

theorem Dbs.right_mem {d : Dbs} (h : d.right = true) : ∀ p ∈ d.l, p.mb.right = true ∧ p.mb.some = true ∧ (0 ≤ p.v1 ∧ p.v1 ≤ 1000000) ∧ (0 ≤ p.v2 ∧ p.v2 ≤ 1000000) := by
  simp only [Dbs.right, Bool.and_eq_true] at h
  exact allP_mem _ _ h.2

theorem Dbs.right_len {d : Dbs} (h : d.right = true) : d.l.length ≤ 256 := by
  simp only [Dbs.right, Bool.and_eq_true, decide_eq_true_eq] at h
  omega

theorem Dbs.right_ok {d : Dbs} (h : d.right = true) : ∀ p ∈ d.l, p.ok := fun p hp =>
  let ⟨h1, _, h3, h4⟩ := d.right_mem h p hp
  ⟨h3, h4, Mb.right_ok h1⟩

theorem tickH_ok (ex : Bool) (n : Int) (hn : 0 ≤ n) : ∀ l : List Hd, (∀ h ∈ l, h.ok) → ∀ h ∈ tickH ex n l, h.ok
  | [], _, h, hh => by simp [tickH] at hh
  | a :: r, hall, h, hh => by
    simp only [tickH] at hh
    have ha := (hall a (by simp)).left
    split at hh
    · simp only [List.mem_cons] at hh
      rcases hh with rfl | hh
      · refine ⟨?_⟩
        simp only [sub0]
        split <;> omega
      · exact tickH_ok ex n hn r (fun x hx => hall x (by simp [hx])) h hh
    · exact tickH_ok ex n hn r (fun x hx => hall x (by simp [hx])) h hh

theorem Mb.tick_ok {m : Mb} (h : m.ok) (n : Int) : (m.tick n).ok := by
  have hk := clamp_le n
  refine ⟨?_, ?_, ?_⟩
  · have := h.left
    simp only [Mb.tick, sub0]
    split <;> omega
  · have := tickH_len (m.ex && decide (0 < sub0 m.left (clamp n))) (clamp n) m.srcs
    have := h.len
    simp only [Mb.tick]
    omega
  · exact tickH_ok _ _ hk.1 _ h.srcs

theorem tickP_ok (n : Int) (hn : 0 ≤ n) : ∀ l : List Pl, (∀ p ∈ l, p.ok) → ∀ p ∈ tickP n l, p.ok
  | [], _, h, hh => by simp [tickP] at hh
  | a :: r, hall, h, hh => by
    simp only [tickP] at hh
    have ha := hall a (by simp)
    split at hh
    · simp only [List.mem_cons] at hh
      rcases hh with rfl | hh
      · have h1 := ha.v1
        have h2 := ha.v2
        refine ⟨?_, ?_, Mb.tick_ok ha.mb n⟩
        · simp only [Pl.tick, sub0]; split <;> omega
        · simp only [Pl.tick, sub0]; split <;> omega
      · exact tickP_ok n hn r (fun x hx => hall x (by simp [hx])) h hh
    · exact tickP_ok n hn r (fun x hx => hall x (by simp [hx])) h hh

/-- Two ticks of sources. -/
theorem tickH_tickH (e1 e2 : Bool) (a b : Int) (he : e2 = true → e1 = true) (ha : 0 ≤ a) (hb : 0 ≤ b) : ∀ l : List Hd, (∀ h ∈ l, h.ok) → tickH e2 b (tickH e1 a l) = tickH e2 (clamp (a + b)) l
  | [], _ => by simp [tickH]
  | h :: r, hall => by
    have hh := (hall h (by simp)).left
    have ih := tickH_tickH e1 e2 a b he ha hb r (fun x hx => hall x (by simp [hx]))
    have hs := sub0_sub0 (x := h.left) hh.2 ha hb
    by_cases h1 : (e1 || decide (0 < sub0 h.left a)) = true
    · rw [tickH, if_pos h1, tickH, tickH, ih, hs]
    · rw [tickH, if_neg h1, ih, tickH, if_neg]
      intro h2
      apply h1
      simp only [Bool.or_eq_true, decide_eq_true_eq] at h2 ⊢
      rcases h2 with h2 | h2
      · exact .inl (he h2)
      · right
        rw [← hs] at h2
        revert h2
        simp only [sub0]
        repeat' split
        all_goals omega

theorem Mb.tick_tick {m : Mb} (h : m.ok) {a b : Int} (ha : 0 ≤ a) (ha1 : a ≤ 1000000) (hb : 0 ≤ b) (hb1 : b ≤ 1000000) :
    ((m.tick a).tick b).g = (m.tick (a + b)).g ∧ ((m.tick a).tick b).ex = (m.tick (a + b)).ex ∧ ((m.tick a).tick b).left = (m.tick (a + b)).left ∧ ((m.tick a).tick b).srcs = (m.tick (a + b)).srcs := by
  have hs := sub0_sub0 (x := m.left) h.left.2 ha hb
  have hex : (m.ex && decide (0 < sub0 m.left a) && decide (0 < sub0 m.left (clamp (a + b)))) = (m.ex && decide (0 < sub0 m.left (clamp (a + b)))) := by
    cases m.ex
    · rfl
    · rw [← hs]
      by_cases h2 : 0 < sub0 (sub0 m.left a) b
      · have : 0 < sub0 m.left a := by
          revert h2
          simp only [sub0]
          repeat' split
          all_goals omega
        simp [this]
      · simp [h2]
  simp only [Mb.tick, clamp_id ha ha1, clamp_id hb hb1, hs, hex]
  refine ⟨trivial, trivial, trivial, ?_⟩
  refine tickH_tickH _ _ a b (fun he => ?_) ha hb m.srcs h.srcs
  rw [← hex] at he
  simp only [Bool.and_eq_true] at he ⊢
  exact he.1

theorem clamp_clamp (n : Int) : clamp (clamp n) = clamp n := by
  have := clamp_le n
  exact clamp_id this.1 this.2

theorem Mb.tick_clamp (m : Mb) (n : Int) : m.tick (clamp n) = m.tick n := by
  simp only [Mb.tick, clamp_clamp]

theorem Mb.same_of {a b : Mb} (h1 : a.g = b.g) (h2 : a.ex = b.ex) (h3 : a.left = b.left) (h4 : a.srcs = b.srcs) : a.same b = true := by
  simp [Mb.same, h1, h2, h3, h4]

theorem sameL_len : ∀ (a b : List Pl), sameL a b = true → a.length = b.length
  | [], [], _ => rfl
  | p :: r, q :: s, h => by
    simp only [sameL, Bool.and_eq_true] at h
    simp [sameL_len r s h.2]
  | [], _ :: _, h => by simp [sameL] at h
  | _ :: _, [], h => by simp [sameL] at h

theorem tickP_tickP {a b : Int} (ha : 0 ≤ a) (ha1 : a ≤ 1000000) (hb : 0 ≤ b) (hb1 : b ≤ 1000000) : ∀ l : List Pl, (∀ p ∈ l, p.ok) → sameL (tickP b (tickP a l)) (tickP (clamp (a + b)) l) = true
  | [], _ => by simp [tickP, sameL]
  | p :: r, hall => by
    have hp := hall p (by simp)
    have ih := tickP_tickP ha ha1 hb hb1 r (fun x hx => hall x (by simp [hx]))
    obtain ⟨h1, h2, h3, h4⟩ := Mb.tick_tick hp.mb ha ha1 hb hb1
    have hc : p.mb.tick (clamp (a + b)) = p.mb.tick (a + b) := Mb.tick_clamp _ _
    have hsome : ((p.mb.tick a).tick b).some = (p.mb.tick (a + b)).some := by simp only [Mb.some, h2, h4]
    by_cases hs : (p.mb.tick a).some = true
    · rw [tickP, if_pos hs, tickP, tickP, hc]
      have e : (p.tick a).mb = p.mb.tick a := rfl
      rw [e, hsome]
      split
      · simp only [sameL, ih, Bool.and_true]
        simp only [Pl.same, Pl.tick, hc, Mb.same_of h1 h2 h3 h4, sub0_sub0 hp.v1.2 ha hb, sub0_sub0 hp.v2.2 ha hb]
        simp
      · exact ih
    · have hn : ¬ (p.mb.tick (a + b)).some = true := by
        rw [← hsome]
        simp only [Mb.some, Bool.or_eq_true, decide_eq_true_eq, not_or] at hs ⊢
        obtain ⟨hs1, hs2⟩ := hs
        have e1 : (p.mb.tick a).srcs = [] := List.eq_nil_of_length_eq_zero (by omega)
        have e2 : (p.mb.tick a).ex = false := by simpa using hs1
        generalize p.mb.tick a = q at e1 e2
        simp [Mb.tick, e1, e2, tickH]
      rw [tickP, if_neg hs, tickP, hc, if_neg hn]
      exact ih

theorem tickH_zero (ex : Bool) : ∀ (l : List Hd), (∀ h ∈ l, 0 ≤ h.left ∧ h.left ≤ 1000000 ∧ (h.left ≠ 0 ∨ ex = true)) → tickH ex 0 l = l
  | [], _ => rfl
  | h :: r, hall => by
    obtain ⟨h1, h2, h3⟩ := hall h (by simp)
    rw [tickH, sub0_zero h1, tickH_zero ex r (fun x hx => hall x (by simp [hx])), if_pos]
    simp only [Bool.or_eq_true, decide_eq_true_eq]
    rcases h3 with h3 | h3
    · right; omega
    · exact .inl h3

theorem Mb.tick_zero {m : Mb} (h : m.right = true) : (m.tick 0).g = m.g ∧ (m.tick 0).ex = m.ex ∧ (m.tick 0).left = m.left ∧ (m.tick 0).srcs = m.srcs := by
  have hok := Mb.right_ok h
  simp only [Mb.right, Bool.and_eq_true] at h
  obtain ⟨⟨_, h2⟩, h3⟩ := h
  have hc : clamp 0 = 0 := clamp_neg (by omega)
  have hex : (m.ex && decide (0 < m.left)) = m.ex := by
    cases hx : m.ex
    · rfl
    · simp only [hx, if_true, Bool.and_eq_true, decide_eq_true_eq] at h2
      simp; omega
  simp only [Mb.tick, hc, sub0_zero hok.left.1, hex]
  exact ⟨trivial, trivial, trivial, tickH_zero _ _ (allH_mem _ _ _ h3)⟩

theorem tickP_zero : ∀ (l : List Pl), (∀ p ∈ l, p.mb.right = true ∧ p.mb.some = true ∧ (0 ≤ p.v1 ∧ p.v1 ≤ 1000000) ∧ (0 ≤ p.v2 ∧ p.v2 ≤ 1000000)) → sameL (tickP 0 l) l = true
  | [], _ => rfl
  | p :: r, hall => by
    obtain ⟨h1, h2, h3, h4⟩ := hall p (by simp)
    obtain ⟨e1, e2, e3, e4⟩ := Mb.tick_zero h1
    have hs : (p.mb.tick 0).some = true := by rw [← h2]; simp only [Mb.some, e2, e4]
    rw [tickP, if_pos hs, sameL, tickP_zero r (fun x hx => hall x (by simp [hx])), Bool.and_true]
    simp only [Pl.same, Pl.tick, Mb.same_of e1 e2 e3 e4, sub0_zero h3.1, sub0_zero h4.1]
    simp

theorem Dbs.tick_tick {d : Dbs} (h : d.right = true) {a b : Int} (ha : 0 ≤ a) (ha1 : a ≤ 1000000) (hb : 0 ≤ b) (hb1 : b ≤ 1000000) : ((d.tick a).tick b).same (d.tick (a + b)) = true := by
  have hs := tickP_tickP ha ha1 hb hb1 d.l (Dbs.right_ok h)
  simp only [Dbs.tick, Dbs.same, clamp_id ha ha1, clamp_id hb hb1, hs, sameL_len _ _ hs]
  simp

theorem Dbs.tick_zero {d : Dbs} (h : d.right = true) {n : Int} (hn : n ≤ 0) : (d.tick n).same d = true := by
  have hs := tickP_zero d.l (Dbs.right_mem h)
  simp only [Dbs.tick, Dbs.same, clamp_neg hn, hs, sameL_len _ _ hs]
  simp

theorem Dbs.tick_len (d : Dbs) (a : Int) : (d.tick a).l.length ≤ d.l.length := tickP_len _ _

theorem Dbs.tick_ok {d : Dbs} (h : ∀ p ∈ d.l, p.ok) (a : Int) : ∀ p ∈ (d.tick a).l, p.ok := tickP_ok _ (clamp_le a).1 _ h

end Go.Ev.S
