/- DbRoom: a database has never more places than it may have; what is there is never refused for want of room; a place that came by a report is there. No conditions: for every input. -/
import Derived.Test.YtiplefdmpcjgcaaGreatDbEnd
import Derived.Test.YtiplefdmpcjgcaaGreatDbR
namespace Go.Proofs.YtiplefdmpcjgcaaGreat.dbRoomDone
open Go.ChangeShapes Go.WideShapes Go.ChangeAt Go.RowKit Go.Ev

set_option maxRecDepth 100000 in
theorem lifted (os : Os) (started : os.Started) (H : Type) (enc : TypeId × Value → H) :
    ReturnsInHanded {} Tryz.checked os 5 .any (Rows.dbRoomSpec.pre6 enc Tryz.prog Tryz.f5 Rows.dbRoomRow.domain false) (Rows.dbRoomSpec.post enc Tryz.prog Tryz.f5 false true false false) := by
  refine returnsInHanded_of_change_sized (C := Tryz.checked) own started (by kernel_rfl) Tryz.func5
    (ChangeSpec.witness6 (enc := enc) (C := Tryz.checked) false ⟨#[], #[.agg #[.int .i64 0, .int .i64 0, .int .i64 0, .slice none 0 0], .int .i64 0, .int .u32 0], []⟩ 8 (by kernel_rfl) (by kernel_rfl) (by kernel_rfl) (by kernel_rfl)) ?_
  intro W base args ds gs before hval0 hW hcnd hsz0 _
  have hval : ∀ (j : Nat) t v, Tryz.f5.params[j]? = some t → args[j]? = some v → Value.okWide Tryz.prog W .any base t v := hval0
  have hsz : (DataW.weightsEach Tryz.prog (Tryz.f5.params.toList ++ Rows.dbRoomSpec.plain.varTypes Tryz.prog) (ds ++ gs)).all (· ≤ reachBytes) = true := hsz0
  have hW' := hW
  obtain ⟨p, q, hA0, hV, rfl, hfz, hnd⟩ := hW
  have hA : DataW.TrodAll enc Tryz.prog W 0 (fun _ => true) true Tryz.f5.params.toList args.toList ds p := hA0
  rw [Tryz.params5] at hA hval hsz
  obtain ⟨v0, vs0, d0, ds0, p0, q0, hargs, rfl, rfl, h0, r0⟩ := trodAll_cons hA
  obtain ⟨v1, vs1, d1, ds1, p1, q1, rfl, rfl, rfl, h1, r1⟩ := trodAll_cons r0
  obtain ⟨v2, vs2, d2, ds2, p2, q2, rfl, rfl, rfl, h2, r2⟩ := trodAll_cons r1
  obtain ⟨rfl, rfl, rfl⟩ := trodAll_nil r2
  obtain rfl : args = #[v0, v1, v2] := by cases args; simp_all
  obtain ⟨rfl, rfl⟩ := trodVars_none hV
  have wt : ∀ (j : Nat) (t : TypeId) (d : DataW H), ([26, 3, 28] : List TypeId)[j]? = some t → [d0, d1, d2][j]? = some d → ∀ n ∈ d.weights Tryz.prog t, n ≤ reachBytes := fun j t d ht hd n hn => by
    have := List.all_eq_true.1 hsz n (DataW.weights_mem_each (j := j) (by simpa using List.getElem?_append_left (List.getElem?_eq_some_iff.1 ht).1 |>.trans ht) (by simpa using List.getElem?_append_left (List.getElem?_eq_some_iff.1 hd).1 |>.trans hd) n hn)
    simpa using this
  have lt0 : ∀ x ∈ p0, x.block < W.heap.size := by obtain ⟨m, hm⟩ := h0; exact DataW.trod_lt m _ _ _ hm
  have lt1 : ∀ x ∈ p1, x.block < W.heap.size := by obtain ⟨m, hm⟩ := h1; exact DataW.trod_lt m _ _ _ hm
  have lt2 : ∀ x ∈ p2, x.block < W.heap.size := by obtain ⟨m, hm⟩ := h2; exact DataW.trod_lt m _ _ _ hm
  obtain ⟨a0, _, e0, s0⟩ := read_arg (μ := mu0) (d := 10) (by kernel_rfl) (hval 0 26 v0 rfl rfl) h0 (wt 0 26 d0 rfl rfl)
  obtain ⟨a1, _, e1, s1⟩ := read_arg (μ := mu0) (d := 10) (by kernel_rfl) (hval 1 3 v1 rfl rfl) h1 (wt 1 3 d1 rfl rfl)
  obtain ⟨a2, _, e2, s2⟩ := read_arg (μ := mu0) (d := 10) (by kernel_rfl) (hval 2 28 v2 rfl rfl) h2 (wt 2 28 d2 rfl rfl)
  obtain ⟨cs0, rfl, k0⟩ := arg_struct Tryz.underlying26 s0
  obtain ⟨x0, rfl, wf0⟩ := S.sh_db k0
  obtain ⟨n1, rfl, w1⟩ := arg_int Tryz.underlying3 s1
  obtain ⟨n2, rfl, w2⟩ := arg_int Tryz.underlying28 s2
  clear hA0 hval0 hsz0
  refine (S.calls_of_law (S.room_law x0 wf0 n1 n2) (by simp [yieldF]) (args3 e0 e1 e2)).mono fun e W' ⟨he, bel⟩ => ?_
  subst he
  exact ⟨_, rfl, _, _, _, [], _, [], hW', trodAll_mk1 (shut_bool Tryz.underlying4 _),
    (trodAll_cons_mk (Below.trod laidOut (by kernel_rfl) (of_decide_eq_true (by kernel_rfl)) h0 bel lt0) (trodAll_cons_mk (Below.trod laidOut (by kernel_rfl) (of_decide_eq_true (by kernel_rfl)) h1 bel lt1) (trodAll_cons_mk (Below.trod laidOut (by kernel_rfl) (of_decide_eq_true (by kernel_rfl)) h2 bel lt2) trodAll_mk0))), rfl, bel.frame _, fun h => by cases h⟩

theorem over : Rows.dbRoomRow.holds Tryz.pinned (OpenSpec.ofChange Rows.dbRoomSpec) :=
  OpenClaim.holds_of_wide 5 Tryz.f5 rfl rfl rfl rfl rfl rfl rfl ⟨rfl, rfl, rfl, rfl, rfl⟩ rfl rfl rfl rfl rfl (by kernel_rfl) Tryz.func5 (by kernel_rfl)
    (of_decide_eq_true (by kernel_rfl)) (by unfold Func.isWrapper; first | (rw [if_pos (by decide +kernel)]; kernel_rfl) | (rw [if_neg (by decide +kernel)]; exact ⟨rfl, rfl⟩))
    (fun os started H enc _ => lifted os started H enc)

end Go.Proofs.YtiplefdmpcjgcaaGreat.dbRoomDone
namespace Go.Proofs.YtiplefdmpcjgcaaGreat
theorem dbRoom_holds : Rows.DbRoomSaid := dbRoomDone.over
end Go.Proofs.YtiplefdmpcjgcaaGreat
