import Derived.Test.YtkchfmhgboiimaaGreatRows
import Derived.Test.YtkchfmhgboiimaaGreatK15
set_option linter.unusedSimpArgs false
set_option linter.unusedVariables false
namespace Go.Proofs.YtkchfmhgboiimaaGreat.copiesMatchesReference
open Go.ChangeShapes Go.WideShapes Go.ChangeAt Go.RowKit Go.Deep
set_option maxRecDepth 100000 in
theorem lifted (os : Os) (started : os.Started) (H : Type) (enc : TypeId × Value → H) :
  ReturnsInHanded {} Tryz.checked os 3 .any (Rows.copiesMatchesReferenceSpec.pre6 enc Tryz.prog Tryz.f3 Rows.copiesMatchesReferenceRow.domain false) (Rows.copiesMatchesReferenceSpec.post enc Tryz.prog Tryz.f3 false true false false) := by
 refine returnsInHanded_of_change (C := Tryz.checked) own started (by kernel_rfl) Tryz.func3
  (ChangeSpec.witness6 (enc := enc) (C := Tryz.checked) false ⟨#[], #[.slice none 0 0, .int .i64 0, .int .i64 0, .int .i64 0, .slice none 0 0, .int .i64 0], []⟩ 8 (by kernel_rfl) (by kernel_rfl) (by kernel_rfl) (by kernel_rfl)) ?_
 intro W base args ds gs before hval0 hW _ _; have hval : ∀ (j : Nat) t v, Tryz.f3.params[j]? = some t → args[j]? = some v → Value.okWide Tryz.prog W .any base t v := hval0; have hW' := hW; obtain ⟨p, q, hA0, hV, rfl, hfz, hnd⟩ := hW; have hA : DataW.TrodAll enc Tryz.prog W 0 (fun _ => true) true Tryz.f3.params.toList args.toList ds p := hA0; rw [Tryz.params3] at hA hval; obtain ⟨v0, vs0, d0, ds0, p0, q0, hargs, rfl, rfl, h0, r0⟩ := trodAll_cons hA; obtain ⟨v1, vs1, d1, ds1, p1, q1, rfl, rfl, rfl, h1, r1⟩ := trodAll_cons r0; obtain ⟨v2, vs2, d2, ds2, p2, q2, rfl, rfl, rfl, h2, r2⟩ := trodAll_cons r1; obtain ⟨v3, vs3, d3, ds3, p3, q3, rfl, rfl, rfl, h3, r3⟩ := trodAll_cons r2; obtain ⟨v4, vs4, d4, ds4, p4, q4, rfl, rfl, rfl, h4, r4⟩ := trodAll_cons r3; obtain ⟨v5, vs5, d5, ds5, p5, q5, rfl, rfl, rfl, h5, r5⟩ := trodAll_cons r4; obtain ⟨rfl, rfl, rfl⟩ := trodAll_nil r5; obtain rfl : args = #[v0, v1, v2, v3, v4, v5] := by cases args; simp_all
 obtain ⟨rfl, rfl⟩ := trodVars_none hV; obtain ⟨A0, c0, x0, rfl, s0, z0⟩ := opn_Sl_api_Copy (hval 0 _ v0 rfl rfl) h0; obtain ⟨x1, rfl, z1⟩ := opn_int (hval 1 _ v1 rfl rfl) h1; obtain ⟨x2, rfl, z2⟩ := opn_int (hval 2 _ v2 rfl rfl) h2; obtain ⟨x3, rfl, z3⟩ := opn_int (hval 3 _ v3 rfl rfl) h3; obtain ⟨A4, c4, x4, rfl, s4, z4⟩ := opn_Sl_int (hval 4 _ v4 rfl rfl) h4; obtain ⟨x5, rfl, z5⟩ := opn_int (hval 5 _ v5 rfl rfl) h5; refine (z_regulatorlaw38_CopiesMatchesReference 300 A0 c0 x0 x1 x2 x3 A4 c4 x4 x5 true (law38_match z3) (fun g => g < W.heap.size) W (fun _ h => h) trivial ⟨s0, s4, trivial⟩).mono fun e W2 hr => ?_
 obtain ⟨rfl, hb⟩ := hr; exact ⟨_, rfl, post_true (b := 4) laidOut (by rw [Tryz.params3]; intro t ht; simp only [List.mem_cons, List.not_mem_nil, or_false] at ht; (repeat' rcases ht with rfl | ht); all_goals first | (subst ht; exact ⟨by kernel_rfl, of_decide_eq_true (by kernel_rfl)⟩) | exact ⟨by kernel_rfl, of_decide_eq_true (by kernel_rfl)⟩) Tryz.underlying4 (by kernel_rfl) rfl hW' rfl rfl rfl hb⟩
theorem said : Rows.CopiesMatchesReferenceSaid :=
 OpenClaim.holds_of_wide 3 Tryz.f3 rfl rfl rfl rfl rfl rfl rfl ⟨rfl, rfl, rfl, rfl, rfl⟩ rfl rfl rfl rfl rfl (by kernel_rfl) Tryz.func3 (by kernel_rfl)
  (of_decide_eq_true (by kernel_rfl)) (by unfold Func.isWrapper; first | (rw [if_pos (by decide +kernel)]; kernel_rfl) | (rw [if_neg (by decide +kernel)]; exact ⟨rfl, rfl⟩))
  (fun os started H enc _ => lifted os started H enc)
end Go.Proofs.YtkchfmhgboiimaaGreat.copiesMatchesReference
