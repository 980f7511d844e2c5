/- Atomic numbers: what sync/atomic's Load and Add come to, as the evaluator takes them. -/
import Derived.Test.YtiplefdmpcjgcaaGreatEvCode
import Derived.Test.YtiplefdmpcjgcaaGreatProg
import Derived.Laws.LoneSync
import Derived.KernelRfl
namespace Go.Ev
open Go Go.RowKit Go.Proofs

def exLoad : CallT := fun _ vs H L => match vs with
  | [.ptr l b i] => match getB H L l b with
    | some (.cells cs) => match cs[i]? with
      | some (.int .i64 n) => some (.int .i64 n, L)
      | _ => none
    | _ => none
  | _ => none

def exAdd : CallT := fun _ vs H L => match vs with
  | [.ptr l b i, .int .i64 d] => match getB H L l b with
    | some (.cells cs) => match cs[i]? with
      | some (.int .i64 n) => (setB H L l b (.cells (put cs i [.int .i64 (IntKind.i64.wrap (n + d))]))).map fun L' => (.int .i64 (IntKind.i64.wrap (n + d)), L')
      | _ => none
    | _ => none
  | _ => none

/-- One argument. -/
theorem args_one {w : World} {O X : Nat → Prop} {μ : Mu} {a : AV} {vals : Array Value} (h : Args w O X μ [a] vals) (hn : a ≠ .un) : ∃ u, vals = #[u] ∧ Rep w O X μ a u := by
  obtain ⟨h1, h2⟩ := h
  match vals, h1 with
  | ⟨[u]⟩, _ => exact ⟨u, rfl, h2 0 a u rfl rfl hn⟩

theorem args_two {w : World} {O X : Nat → Prop} {μ : Mu} {a b : AV} {vals : Array Value} (h : Args w O X μ [a, b] vals) (ha : a ≠ .un) (hb : b ≠ .un) : ∃ u v, vals = #[u, v] ∧ Rep w O X μ a u ∧ Rep w O X μ b v := by
  obtain ⟨h1, h2⟩ := h
  match vals, h1 with
  | ⟨[u, v]⟩, _ => exact ⟨u, v, rfl, h2 0 a u rfl rfl ha, h2 1 b v rfl rfl hb⟩

theorem walk_load (g o : Nat) (n : Int) (w : World) (hc : w.cell? ⟨g, o, none⟩ = some (.int .i64 n)) :
    Calls Tryz.prog 32 #[.pointer (some ⟨g, o, none⟩)] w fun e w' => e = .returned (.int .i64 n) ∧ w = w' := by
  have hl := run_call_load (P := Tryz.prog) Tryz.func47 (by kernel_rfl) (by kernel_rfl) (by kernel_rfl) .i64 (by kernel_rfl) hc
  go_enter Tryz.func32, Tryz.ntmps32
  go_wp2
  go_ret
  exact ⟨rfl, rfl⟩

theorem walk_add (g o : Nat) (n d s : Int) (w : World) (hc : w.cell? ⟨g, o, none⟩ = some (.int .i64 n)) (hz : w.frozen? ⟨g, o, none⟩ = false) (hs : IntKind.i64.wrap (n + d) = s) :
    Calls Tryz.prog 45 #[.pointer (some ⟨g, o, none⟩), .int .i64 d] w fun e w' => e = .returned (.int .i64 s) ∧ w.setCell ⟨g, o, none⟩ (.int .i64 s) = w' := by
  have hl := run_call_add (P := Tryz.prog) Tryz.func60 (by kernel_rfl) (by kernel_rfl) (by kernel_rfl) .i64 (by kernel_rfl) (y := d) (s := s) hc hz (by rw [← hs]; rfl)
  clear hs
  go_enter Tryz.func45, Tryz.ntmps45
  go_wp2
  go_ret
  exact ⟨rfl, rfl⟩

/-- What is at a pointer's cell. -/
theorem ptr_cell {P : Program} {md : Nat → Md} {w : World} {O X : Nat → Prop} {μ : Mu} {H : List Lv} {L : Lv} (m : Mem P md w O X μ H L) {l b i : Nat} {cs : List AV} {a : AV} {u : Value}
    (r : Rep w O X μ (.ptr l b i) u) (hb : getB H L l b = some (.cells cs)) (ha : cs[i]? = some a) :
    ∃ g o, u = .pointer (some ⟨g, o + i, none⟩) ∧ μ l b = some (g, o) ∧ BR P md w O X μ (.cells cs) g o ∧ ∃ v, w.cell? ⟨g, o + i, none⟩ = some v ∧ Rep w O X μ a v := by
  cases r with
  | ptr _ _ _ g o e =>
    obtain ⟨g', o', h1, h2⟩ := m.at hb AB.cells_live
    rw [e] at h1
    simp only [Option.some.injEq, Prod.mk.injEq] at h1
    obtain ⟨rfl, rfl⟩ := h1
    obtain ⟨_, v, k1, _, k2⟩ := h2.cells i a ha
    exact ⟨g, o, rfl, e, h2, v, k1, k2⟩

theorem load_sound (md : Nat → Md) : SoundC Tryz.prog md (fun f vs H L => if f = 32 then exLoad f vs H L else none) := by
  intro f vs H L v L' h _
  dsimp only at h
  split at h
  · rename_i hf
    subst hf
    unfold exLoad at h
    split at h
    · rename_i l b i
      split at h
      · rename_i cs hb
        split at h
        · rename_i n hn
          simp only [Option.some.injEq, Prod.mk.injEq] at h
          obtain ⟨rfl, rfl⟩ := h
          refine ⟨⟨_, Tryz.func32, by kernel_rfl, by kernel_rfl⟩, fun w O X μ vals m ha => ?_⟩
          obtain ⟨u, rfl, r⟩ := args_one ha (by simp)
          obtain ⟨g, o, rfl, _, _, x, hx, hr⟩ := ptr_cell m r hb hn
          cases hr
          refine (walk_load g (o + i) n w hx).mono fun e w' he => ?_
          obtain ⟨rfl, rfl⟩ := he
          exact ⟨_, rfl, O, X, μ, Ext.refl .., m, fun _ => .int _ _⟩
        · cases h
      · cases h
    · cases h
  · cases h

theorem add_sound (md : Nat → Md) : SoundC Tryz.prog md (fun f vs H L => if f = 45 then exAdd f vs H L else none) := by
  intro f vs H L v L' h _
  dsimp only at h
  split at h
  · rename_i hf
    subst hf
    unfold exAdd at h
    split at h
    · rename_i l b i d
      split at h
      · rename_i cs hb
        split at h
        · rename_i n hn
          simp only [Option.map_eq_some_iff, Prod.mk.injEq] at h
          obtain ⟨L1, hset, rfl, rfl⟩ := h
          obtain ⟨rfl, hbl, rfl⟩ := setB_spec hset
          rw [getB_cur] at hb
          refine ⟨⟨_, Tryz.func45, by kernel_rfl, by kernel_rfl⟩, fun w O X μ vals m ha => ?_⟩
          obtain ⟨u, u2, rfl, r, r2⟩ := args_two ha (by simp) (by simp)
          obtain ⟨g, o, rfl, hmu, hbr, x, hx, hr⟩ := ptr_cell m r (by rw [getB_cur]; exact hb) hn
          cases hr
          cases r2
          obtain ⟨arr, ty, k1, k2, k3⟩ := hbr
          have hil : i < cs.length := (List.getElem?_eq_some_iff.1 hn).1
          obtain ⟨s1, s2, s3⟩ := store_row m hb hmu k1 k2 k3 (vs := [.int .i64 (IntKind.i64.wrap (n + d))]) (us := [.int .i64 (IntKind.i64.wrap (n + d))]) (i := i) ⟨rfl, fun j a u ea eu => by
            cases j with
            | zero => simp at ea eu; subst ea eu; exact .int _ _
            | succ j => simp at ea, fun j u eu => by
            cases j with
            | zero => simp at eu; subst eu; rfl
            | succ j => simp at eu⟩ (by simp; omega)
          have hz : w.frozen? ⟨g, o + i, none⟩ = false := by simp [World.frozen?, k1]
          refine (walk_add g (o + i) n d _ w hx hz rfl).mono fun e w' he => ?_
          obtain ⟨rfl, rfl⟩ := he
          have hw : w.setCell ⟨g, o + i, none⟩ (.int .i64 (IntKind.i64.wrap (n + d))) = w.setRow g (arr.toList.take (o + i) ++ [Value.int .i64 (IntKind.i64.wrap (n + d))] ++ arr.toList.drop (o + i + [Value.int .i64 (IntKind.i64.wrap (n + d))].length)).toArray := by
            have hst : (store ⟨g, o + i, none⟩ (.int .i64 (IntKind.i64.wrap (n + d))) .plain).run Tryz.prog w = .ok () (w.setCell ⟨g, o + i, none⟩ (.int .i64 (IntKind.i64.wrap (n + d)))) := by
              rw [run_store _ _ _ _ _ rfl]
              simp only [hx, hz]
              rfl
            have : (storeCells ⟨g, o + i, none⟩ [.int .i64 (IntKind.i64.wrap (n + d))]).run Tryz.prog w = .ok () (w.setCell ⟨g, o + i, none⟩ (.int .i64 (IntKind.i64.wrap (n + d)))) := by
              simp only [storeCells, Sem.run_bind]
              rw [Addr.add_lit, Nat.add_zero, hst]
              rfl
            rw [s1] at this
            simpa using this.symm
          rw [hw]
          exact ⟨_, rfl, O, X, μ, s2, s3, fun _ => .int _ _⟩
        · cases h
      · cases h
    · cases h
  · cases h

end Go.Ev
