import Derived.Test.YtlfkgbideknkhaaRows
import Derived.Test.YtlfkgbideknkhaaJU55
set_option linter.unusedSimpArgs false
set_option linter.unusedVariables false
namespace Go.Proofs.Ytlfkgbideknkhaa.journalRecovers
open Go.ChangeShapes Go.WideShapes Go.ChangeAt Go.RowKit Go.Deep
set_option maxRecDepth 100000 in
theorem lifted (os : Os) (started : os.Started) (H : Type) (enc : TypeId × Value → H) :
  ReturnsInHanded {} Try.checked os 7 .any (Rows.journalRecoversSpec.pre6 enc Try.prog Try.f7 Rows.journalRecoversRow.domain false) (Rows.journalRecoversSpec.post enc Try.prog Try.f7 false true false false) := by
 refine returnsInHanded_of_change (C := Try.checked) own started (by kernel_rfl) Try.func7
  (ChangeSpec.witness6 (enc := enc) (C := Try.checked) false ⟨#[], #[.slice none 0 0, .slice none 0 0, .int .i64 0, .int .i64 0], []⟩ 8 (by kernel_rfl) (by kernel_rfl) (by kernel_rfl) (by kernel_rfl)) ?_
 intro W base args ds gs before hval0 hW _ _; have hval : ∀ (j : Nat) t v, Try.f7.params[j]? = some t → args[j]? = some v → Value.okWide Try.prog W .any base t v := hval0; have hW' := hW; obtain ⟨p, q, hA0, hV, rfl, hfz, hnd⟩ := hW; have hA : DataW.TrodAll enc Try.prog W 0 (fun _ => true) true Try.f7.params.toList args.toList ds p := hA0; rw [Try.params7] at hA hval; obtain ⟨v0, vs0, d0, ds0, p0, q0, hargs, rfl, rfl, h0, r0⟩ := trodAll_cons hA; obtain ⟨v1, vs1, d1, ds1, p1, q1, rfl, rfl, rfl, h1, r1⟩ := trodAll_cons r0; obtain ⟨v2, vs2, d2, ds2, p2, q2, rfl, rfl, rfl, h2, r2⟩ := trodAll_cons r1; obtain ⟨v3, vs3, d3, ds3, p3, q3, rfl, rfl, rfl, h3, r3⟩ := trodAll_cons r2; obtain ⟨rfl, rfl, rfl⟩ := trodAll_nil r3; obtain rfl : args = #[v0, v1, v2, v3] := by cases args; simp_all
 obtain ⟨rfl, rfl⟩ := trodVars_none hV; obtain ⟨A0, c0, x0, rfl, s0, z0⟩ := opn_Sl_api_Tx (hval 0 _ v0 rfl rfl) h0; obtain ⟨A1, c1, x1, rfl, s1, z1⟩ := opn_Sl_uint32 (hval 1 _ v1 rfl rfl) h1; obtain ⟨x2, rfl, z2⟩ := opn_int (hval 2 _ v2 rfl rfl) h2; obtain ⟨x3, rfl, z3⟩ := opn_int (hval 3 _ v3 rfl rfl) h3; refine (z_regulatorlaw37_JournalRecovers (300000 + (x0.map KTxL.p).length) A0 c0 x0 A1 c1 x1 x2 x3 true (law37_recovers (by rw [List.length_map]; exact olen Try.underlying30 (hval 0 _ _ rfl rfl)) z1) (fun g => g < W.heap.size) W (fun _ h => h) trivial ⟨s0, s1, trivial⟩).mono fun e W2 hr => ?_
 obtain ⟨rfl, hb⟩ := hr; exact ⟨_, rfl, post_true (b := 4) laidOut (by rw [Try.params7]; intro t ht; simp only [List.mem_cons, List.not_mem_nil, or_false] at ht; (repeat' rcases ht with rfl | ht); all_goals first | (subst ht; exact ⟨by kernel_rfl, of_decide_eq_true (by kernel_rfl)⟩) | exact ⟨by kernel_rfl, of_decide_eq_true (by kernel_rfl)⟩) Try.underlying4 (by kernel_rfl) rfl hW' rfl rfl rfl hb⟩
theorem said : Rows.JournalRecoversSaid :=
 OpenClaim.holds_of_wide 7 Try.f7 rfl rfl rfl rfl rfl rfl rfl ⟨rfl, rfl, rfl, rfl, rfl⟩ rfl rfl rfl rfl rfl (by kernel_rfl) Try.func7 (by kernel_rfl)
  (of_decide_eq_true (by kernel_rfl)) (by unfold Func.isWrapper; first | (rw [if_pos (by decide +kernel)]; kernel_rfl) | (rw [if_neg (by decide +kernel)]; exact ⟨rfl, rfl⟩))
  (fun os started H enc _ => lifted os started H enc)
end Go.Proofs.Ytlfkgbideknkhaa.journalRecovers
