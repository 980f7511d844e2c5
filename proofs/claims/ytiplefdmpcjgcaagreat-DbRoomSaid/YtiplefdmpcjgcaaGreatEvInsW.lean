/- slices.Insert, walked: three roads. -/
import Derived.Test.YtiplefdmpcjgcaaGreatEvInsD
import Derived.Test.YtiplefdmpcjgcaaGreatProg
import Derived.Shelf.Spec.SlicesInsertGrow
import Derived.KernelRfl
set_option linter.unusedVariables false
set_option linter.unusedSimpArgs false
namespace Go.Ev
open Go Go.RowKit Go.Proofs Go.Lib Go.Shelf

set_option maxHeartbeats 4000000 in
set_option maxRecDepth 100000 in
/-- There is room: in place. -/
theorem ins62_shift (g o n c i m c2 : Nat) (A2 : Addr) (w W1 W2 : World) (v1 v2 : Value) (hi : i < n) (hm : 0 < m) (hroom : n + m ≤ c) (hnm : n + m ≤ 9223372036854775807)
    (hov : ∀ lb cb, (callFunc 80 #[.slice (some A2) m c2, .slice (some ⟨g, o + (i + m) * 7, none⟩) lb cb]).run Tryz.prog w = .ok (.value (.bool false)) w)
    (hcp1 : ∀ ty dc sc, (Builtin.copy_ #[24, 24] ty #[.slice (some ⟨g, o + (i + m) * 7, none⟩) (n + m - (i + m)) dc, .slice (some ⟨g, o + i * 7, none⟩) (n + m - i) sc]).run Tryz.prog w.drew = .ok v1 W1)
    (hcp2 : ∀ ty dc, (Builtin.copy_ #[24, 24] ty #[.slice (some ⟨g, o + i * 7, none⟩) (n + m - i) dc, .slice (some A2) m c2]).run Tryz.prog W1 = .ok v2 W2) :
    Calls Tryz.prog 62 #[.slice (some ⟨g, o, none⟩) n c, .int .i64 i, .slice (some A2) m c2] w fun e w' =>
      e = .returned (.slice (some ⟨g, o, none⟩) (n + m) c) ∧ w' = W2 := by
  have u3 := run_underlying Tryz.underlying3; have u4 := run_underlying Tryz.underlying4; have uS := run_underlying Tryz.underlying24; have uE := run_underlying Tryz.underlying51
  have zE : ∀ w, (Go.sizeOf 51).run Tryz.prog w = .ok 7 w := run_sizeOf (by kernel_rfl)
  have hz1 : ¬ ((m : Int) = 0) := by omega
  have hz2 : ¬ ((i : Int) = (n : Int)) := by omega
  have hw1 : IntKind.i64.wrap ((i : Int) + (m : Int)) = (i : Int) + (m : Int) := by rw [IntKind.wrap_i64]; omega
  have hb1 : (0 : Int) ≤ (i : Int) + (m : Int) := by omega
  have hin : i ≤ n := by omega
  have htn : ((i : Int) + (m : Int)).toNat = i + m := by omega
  have hb2 : ¬ (c = i + m) := by omega
  have hb3 : (i : Int) ≤ (n : Int) + (m : Int) := by omega
  have hb4 : ¬ (c = i) := by omega
  have mixed : Tryz.prog.follows .mixedOrders = true := by kernel_rfl
  go_enter Tryz.func62, Tryz.ntmps62
  go_wp2_with (simp only [hov])
  go_region_law_o (refine step_copy_runI rfl _ _ 24 24 rfl _ _ (by simp [Act.eval, Act.put]) (by simp [Act.eval, Act.put]) (hcp1 _ _ _) ?_)
  go_wp2_with (at_builtin; refine wpList_copy_runI _ rfl _ _ 24 24 rfl _ _ rfl rfl (hcp2 _ _) ?_)
  go_ret
  exact ⟨rfl, rfl⟩

set_option maxHeartbeats 4000000 in
set_option maxRecDepth 100000 in
/-- At the end: an append. -/
theorem ins62_end (A : Option Addr) (n c m c2 : Nat) (A2 : Addr) (w W1 : World) (u : Value) (hm : 0 < m) (hnc : n ≤ c)
    (hap : ∀ ty, (Builtin.append_ #[24, 24] ty #[.slice A n c, .slice (some A2) m c2]).run Tryz.prog w = .ok u W1) :
    Calls Tryz.prog 62 #[.slice A n c, .int .i64 n, .slice (some A2) m c2] w fun e w' => e = .returned u ∧ w' = W1 := by
  have u3 := run_underlying Tryz.underlying3; have u4 := run_underlying Tryz.underlying4; have uS := run_underlying Tryz.underlying24; have uE := run_underlying Tryz.underlying51
  have zE : ∀ w, (Go.sizeOf 51).run Tryz.prog w = .ok 7 w := run_sizeOf (by kernel_rfl)
  have hz1 : ¬ ((m : Int) = 0) := by omega
  have mixed : Tryz.prog.follows .mixedOrders = true := by kernel_rfl
  cases A with
  | none =>
    go_enter Tryz.func62, Tryz.ntmps62
    go_wp2_with (at_builtin; refine Lib.wpList_append_run _ rfl _ _ _ _ rfl _ _ rfl rfl _ _ (hap _) ?_)
    go_ret
    exact ⟨rfl, rfl⟩
  | some A =>
    go_enter Tryz.func62, Tryz.ntmps62
    go_wp2_with (at_builtin; refine Lib.wpList_append_run _ rfl _ _ _ _ rfl _ _ rfl rfl _ _ (hap _) ?_)
    all_goals
      go_ret
      exact ⟨rfl, rfl⟩

set_option maxHeartbeats 4000000 in
set_option maxRecDepth 100000 in
/-- There is no room: a new row. -/
theorem ins62_grow (g o n c i m c2 N G : Nat) (A2 : Addr) (w W1 W2 W3 : World) (v1 v2 : Value) (hi : i < n) (hm : 0 < m) (hnc : n ≤ c) (hroom : c < n + m) (hG : n + m ≤ G) (hnm : n + m ≤ 9223372036854775807)
    (hrz : ∀ ty, (Builtin.append_ #[24, 3] ty #[.slice (some ⟨g, o, none⟩) i c, .int .i64 ((n : Int) + (m : Int) - (i : Int))]).run Tryz.prog w = .ok (.slice (some ⟨N, 0, none⟩) (n + m) G) W1)
    (hcpA : ∀ ty dc, (Builtin.copy_ #[24, 24] ty #[.slice (some ⟨N, i * 7, none⟩) (n + m - i) dc, .slice (some A2) m c2]).run Tryz.prog W1 = .ok v2 W2)
    (hcpB : ∀ ty dc sc, (Builtin.copy_ #[24, 24] ty #[.slice (some ⟨N, (i + m) * 7, none⟩) (n + m - (i + m)) dc, .slice (some ⟨g, o + i * 7, none⟩) (n - i) sc]).run Tryz.prog W2.drew = .ok v1 W3) :
    Calls Tryz.prog 62 #[.slice (some ⟨g, o, none⟩) n c, .int .i64 i, .slice (some A2) m c2] w fun e w' =>
      e = .returned (.slice (some ⟨N, 0, none⟩) (n + m) G) ∧ w' = W3 := by
  have u3 := run_underlying Tryz.underlying3; have u4 := run_underlying Tryz.underlying4; have uS := run_underlying Tryz.underlying24; have uE := run_underlying Tryz.underlying51
  have zE : ∀ w, (Go.sizeOf 51).run Tryz.prog w = .ok 7 w := run_sizeOf (by kernel_rfl)
  have hz1 : ¬ ((m : Int) = 0) := by omega
  have hz2 : ¬ ((i : Int) = (n : Int)) := by omega
  have hz3 : (c : Int) < (n : Int) + (m : Int) := by omega
  have hw1 : IntKind.i64.wrap ((i : Int) + (m : Int)) = (i : Int) + (m : Int) := by rw [IntKind.wrap_i64]; omega
  have hb1 : (0 : Int) ≤ (i : Int) + (m : Int) := by omega
  have hin : i ≤ n := by omega
  have htn : ((i : Int) + (m : Int)).toNat = i + m := by omega
  have hb3 : (i : Int) ≤ (n : Int) := by omega
  have hGi : ¬ (G = i) := by omega
  have hGim : ¬ (G = i + m) := by omega
  have hci : ¬ (c = i) := by omega
  have mixed : Tryz.prog.follows .mixedOrders = true := by kernel_rfl
  go_enter Tryz.func62, Tryz.ntmps62
  go_wp2_with (first
    | (at_builtin; refine Lib.wpList_append_run _ rfl _ _ _ _ rfl _ _ rfl rfl _ _ (hrz _) ?_)
    | (at_builtin; refine wpList_copy_runI _ rfl _ _ 24 24 rfl _ _ rfl rfl (hcpA _ _) ?_))
  go_region_law_o (refine step_copy_runI rfl _ _ 24 24 rfl (.slice (some ⟨N, (i + m) * 7, none⟩) (n + m - (i + m)) (G - (i + m))) (.slice (some ⟨g, o + i * 7, none⟩) (n - i) (c - i)) (by simp [Act.eval, Act.put]) (by simp [Act.eval, Act.put]) (hcpB _ _ _) ?_)
  go_wp2
  go_ret
  exact ⟨rfl, rfl⟩

theorem ins62_apart (w : World) (a b : Addr) (la ca lb cb : Nat) (tA tB : TypeId) (kA kB : Nat) (hne : a.block ≠ b.block) (hsa : w.shape? a.block = some (tA, kA)) (hsb : w.shape? b.block = some (tB, kB)) (hkB : kB ≠ 0) (hfa : w.frozen? a = false) (hfe : w.frozen? { block := a.block, off := kA } = false) :
    (callFunc 80 #[.slice (some a) la ca, .slice (some b) lb cb]).run Tryz.prog w = .ok (.value (.bool false)) w := by
  have zE : ∀ w, (Go.sizeOf 51).run Tryz.prog w = .ok 7 w := run_sizeOf (by kernel_rfl)
  rw [run_callFunc_extern Tryz.func80 (by kernel_rfl) (by kernel_rfl) (by kernel_rfl) (e := Extern.SlicesOverlaps.overlaps #[24, 24] #[4]) (by kernel_rfl),
    Lib.run_overlaps_apart w 24 4 51 Tryz.underlying24 7 zE a b la ca lb cb hne tA tB kA kB hsa hsb hkB hfa hfe]
  rfl

theorem ins62_sound (md : Nat → Md) : SoundC Tryz.prog md (fun f vs H L => if f = 62 then exIns 7 64 f vs H L else none) := by
  obtain ⟨ti, h1, h2, h3, h4⟩ := info_parts (show (Tryz.prog.info? 51).map (fun i => (i.zero, i.size, i.bytes)) = some (some (.agg #[.int .i64 0, .int .i64 0, .int .i64 0, .int .u32 0, .bool false, .int .i64 0, .slice none 0 0]), 7, 64) by kernel_rfl)
  exact ins_sound (ovl := 80) (t := 24) (tn := 3) (e := 51) (ti := ti) (z := .agg #[.int .i64 0, .int .i64 0, .int .i64 0, .int .u32 0, .bool false, .int .i64 0, .slice none 0 0]) Tryz.underlying24 Tryz.underlying3 (by kernel_rfl) h1 h3 h4 h2 (by kernel_rfl) (by omega) (zl := _) rfl ⟨_, Tryz.func62, by kernel_rfl, by kernel_rfl⟩
    ins62_shift ins62_end ins62_grow ins62_apart

end Go.Ev
