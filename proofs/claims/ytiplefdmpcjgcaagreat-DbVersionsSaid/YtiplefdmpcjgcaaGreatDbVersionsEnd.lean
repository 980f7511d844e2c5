/- DbVersions: a report of version 1, or 2, lets all of its group be wanted; a leave behind a report of version 1 does nothing. No conditions: for every input. -/
import Derived.Test.YtiplefdmpcjgcaaGreatDbEnd
import Derived.Test.YtiplefdmpcjgcaaGreatDbVSh
namespace Go.Proofs.YtiplefdmpcjgcaaGreat.dbVersionsDone
open Go.ChangeShapes Go.WideShapes Go.ChangeAt Go.RowKit Go.Ev

set_option maxRecDepth 100000 in
theorem lifted (os : Os) (started : os.Started) (H : Type) (enc : TypeId × Value → H) :
    ReturnsInHanded {} Tryz.checked os 4 .any (Rows.dbVersionsSpec.pre6 enc Tryz.prog Tryz.f4 Rows.dbVersionsRow.domain false) (Rows.dbVersionsSpec.post enc Tryz.prog Tryz.f4 false true false false) := by
  refine returnsInHanded_of_change_sized (C := Tryz.checked) own started (by kernel_rfl) Tryz.func4
    (ChangeSpec.witness6 (enc := enc) (C := Tryz.checked) false ⟨#[], #[.agg #[.int .i64 0, .int .i64 0, .int .i64 0, .slice none 0 0, .int .i64 0, .int .u32 0, .int .u32 0]], []⟩ 8 (by kernel_rfl) (by kernel_rfl) (by kernel_rfl) (by kernel_rfl)) ?_
  intro W base args ds gs before hval0 hW hcnd hsz0 _
  have hval : ∀ (j : Nat) t v, Tryz.f4.params[j]? = some t → args[j]? = some v → Value.okWide Tryz.prog W .any base t v := hval0
  have hsz : (DataW.weightsEach Tryz.prog (Tryz.f4.params.toList ++ Rows.dbVersionsSpec.plain.varTypes Tryz.prog) (ds ++ gs)).all (· ≤ reachBytes) = true := hsz0
  have hW' := hW
  obtain ⟨p, q, hA0, hV, rfl, hfz, hnd⟩ := hW
  have hA : DataW.TrodAll enc Tryz.prog W 0 (fun _ => true) true Tryz.f4.params.toList args.toList ds p := hA0
  rw [Tryz.params4] at hA hval hsz
  obtain ⟨v0, vs0, d0, ds0, p0, q0, hargs, rfl, rfl, h0, r0⟩ := trodAll_cons hA
  obtain ⟨rfl, rfl, rfl⟩ := trodAll_nil r0
  obtain rfl : args = #[v0] := by cases args; simp_all
  obtain ⟨rfl, rfl⟩ := trodVars_none hV
  have wt : ∀ (j : Nat) (t : TypeId) (d : DataW H), ([43] : List TypeId)[j]? = some t → [d0][j]? = some d → ∀ n ∈ d.weights Tryz.prog t, n ≤ reachBytes := fun j t d ht hd n hn => by
    have := List.all_eq_true.1 hsz n (DataW.weights_mem_each (j := j) (by simpa using List.getElem?_append_left (List.getElem?_eq_some_iff.1 ht).1 |>.trans ht) (by simpa using List.getElem?_append_left (List.getElem?_eq_some_iff.1 hd).1 |>.trans hd) n hn)
    simpa using this
  have lt0 : ∀ x ∈ p0, x.block < W.heap.size := by obtain ⟨m, hm⟩ := h0; exact DataW.trod_lt m _ _ _ hm
  obtain ⟨a0, _, e0, s0⟩ := read_arg (μ := mu0) (d := 10) (by kernel_rfl) (hval 0 43 v0 rfl rfl) h0 (wt 0 43 d0 rfl rfl)
  obtain ⟨cs0, rfl, k0⟩ := arg_struct Tryz.underlying43 s0
  obtain ⟨x0, rfl, wf0⟩ := S.sh_vin k0
  clear hA0 hval0 hsz0
  refine (S.calls_of_law (S.versions_law x0 wf0) (by simp [yieldF]) (args1 e0)).mono fun e W' ⟨he, bel⟩ => ?_
  subst he
  exact ⟨_, rfl, _, _, _, [], _, [], hW', trodAll_mk1 (shut_bool Tryz.underlying4 _),
    (trodAll_cons_mk (Below.trod laidOut (by kernel_rfl) (of_decide_eq_true (by kernel_rfl)) h0 bel lt0) trodAll_mk0), rfl, bel.frame _, fun h => by cases h⟩

theorem over : Rows.dbVersionsRow.holds Tryz.pinned (OpenSpec.ofChange Rows.dbVersionsSpec) :=
  OpenClaim.holds_of_wide 4 Tryz.f4 rfl rfl rfl rfl rfl rfl rfl ⟨rfl, rfl, rfl, rfl, rfl⟩ rfl rfl rfl rfl rfl (by kernel_rfl) Tryz.func4 (by kernel_rfl)
    (of_decide_eq_true (by kernel_rfl)) (by unfold Func.isWrapper; first | (rw [if_pos (by decide +kernel)]; kernel_rfl) | (rw [if_neg (by decide +kernel)]; exact ⟨rfl, rfl⟩))
    (fun os started H enc _ => lifted os started H enc)

end Go.Proofs.YtiplefdmpcjgcaaGreat.dbVersionsDone
namespace Go.Proofs.YtiplefdmpcjgcaaGreat
theorem dbVersions_holds : Rows.DbVersionsSaid := dbVersionsDone.over
end Go.Proofs.YtiplefdmpcjgcaaGreat
