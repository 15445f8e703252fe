/- IdentChain: of two ids that aren't the same one stands ahead; who stands ahead of one that stands ahead of a third one stands ahead of that: for every input the law returns true, and the input reads as it did. -/
import Derived.Test.YtjokkmhndahnkaaRows
import Derived.Test.YtjokkmhndahnkaaIOp
import Derived.Test.YtjokkmhndahnkaaIChain
set_option linter.unusedVariables false
set_option linter.unusedSimpArgs false
namespace Go.Proofs.Ytjokkmhndahnkaa
open Go.ChangeShapes Go.WideShapes Go.ChangeAt Go.RowKit Go.Joins

set_option maxRecDepth 100000 in
theorem identChain_lifted (os : Os) (started : os.Started) (H : Type) (enc : TypeId × Value → H) :
    ReturnsInHanded {} Try.checked os 4 .any (Rows.identChainSpec.pre6 enc Try.prog Try.f4 Rows.identChainRow.domain false) (Rows.identChainSpec.post enc Try.prog Try.f4 false true false false) := by
  refine returnsInHanded_of_change (C := Try.checked) ownT started (by kernel_rfl) Try.func4
    (ChangeSpec.witness6 (enc := enc) (C := Try.checked) false ⟨#[], #[.agg #[.int .u8 0, .int .u64 0], .agg #[.int .u8 0, .int .u64 0], .agg #[.int .u8 0, .int .u64 0]], []⟩ 8 (by kernel_rfl) (by kernel_rfl) (by kernel_rfl) (by kernel_rfl)) ?_
  intro W base args ds gs before hval0 hW hcnd _
  have hval : ∀ (j : Nat) t v, Try.f4.params[j]? = some t → args[j]? = some v → Value.okWide Try.prog W .any base t v := hval0
  have hW' := hW
  obtain ⟨p, q, hA0, hV, rfl, hfz, hnd⟩ := hW
  have hA : DataW.TrodAll enc Try.prog W 0 (fun _ => true) true Try.f4.params.toList args.toList ds p := hA0
  rw [Try.params4] at hA hval
  obtain ⟨v0, v1, v2, d0, d1, d2, p0, p1, p2, rfl, rfl, rfl, h0, h1, h2⟩ := trodAll_three hA
  obtain ⟨rfl, rfl⟩ := trodVars_none hV
  have k0 := h0
  have k1 := h1
  have k2 := h2
  have hlt : ∀ x ∈ p0 ++ p1 ++ p2, x.block < W.heap.size := fun x hx => by simpa using hW'.lt x (by simpa using hx)
  clear hA0 hval0
  simp only [List.append_nil] at hW'
  obtain ⟨ps0, hps0⟩ : ∃ x, x = p0 := ⟨_, rfl⟩
  obtain ⟨ps1, hps1⟩ : ∃ x, x = p1 := ⟨_, rfl⟩
  obtain ⟨ps2, hps2⟩ : ∃ x, x = p2 := ⟨_, rfl⟩
  obtain ⟨c0_0, c0_1, y0_0, y0_1, m0, e0, _, _, hy0_0, hy0_1⟩ := open_agg2 Try.underlying33 (by kernel_rfl) cells33 (hval 0 33 v0 rfl rfl) h0
  obtain ⟨q0_0, f0_0, _, w0_0⟩ := DataW.trod_int Try.underlying5 hy0_0
  obtain ⟨q0_1, f0_1, _, w0_1⟩ := DataW.trod_int Try.underlying31 hy0_1
  simp at f0_0 f0_1
  obtain ⟨c1_0, c1_1, y1_0, y1_1, m1, e1, _, _, hy1_0, hy1_1⟩ := open_agg2 Try.underlying33 (by kernel_rfl) cells33 (hval 1 33 v1 rfl rfl) h1
  obtain ⟨q1_0, f1_0, _, w1_0⟩ := DataW.trod_int Try.underlying5 hy1_0
  obtain ⟨q1_1, f1_1, _, w1_1⟩ := DataW.trod_int Try.underlying31 hy1_1
  simp at f1_0 f1_1
  obtain ⟨c2_0, c2_1, y2_0, y2_1, m2, e2, _, _, hy2_0, hy2_1⟩ := open_agg2 Try.underlying33 (by kernel_rfl) cells33 (hval 2 33 v2 rfl rfl) h2
  obtain ⟨q2_0, f2_0, _, w2_0⟩ := DataW.trod_int Try.underlying5 hy2_0
  obtain ⟨q2_1, f2_1, _, w2_1⟩ := DataW.trod_int Try.underlying31 hy2_1
  simp at f2_0 f2_1
  subst f0_0 f0_1 e0 f1_0 f1_1 e1 f2_0 f2_1 e2
  refine (identChain_row q0_0 q0_1 (inr_wf w0_0) (inr_wf w0_1) q1_0 q1_1 (inr_wf w1_0) (inr_wf w1_1) q2_0 q2_1 (inr_wf w2_0) (inr_wf w2_1) W).mono fun e W' ⟨he, hk⟩ => ?_
  subst he
  have bel : Below W.heap.size W W' := hk.below (Nat.le_refl _) (fun _ _ h => h)
  refine ⟨_, rfl, [d0, d1, d2], [], p0 ++ p1 ++ p2, [], p0 ++ p1 ++ p2, [], by simpa using hW', ?_, ?_, rfl, bel.frame _, fun h => by cases h⟩
  · exact trodAll_mk1 (shut_bool Try.underlying4 _)
  · simp only [List.append_assoc]
    exact trodAll_mk3 (Below.trod laidT (by kernel_rfl) (of_decide_eq_true (by kernel_rfl)) k0 bel (fun x hx => hlt x (by simp [hx]))) (Below.trod laidT (by kernel_rfl) (of_decide_eq_true (by kernel_rfl)) k1 bel (fun x hx => hlt x (by simp [hx]))) (Below.trod laidT (by kernel_rfl) (of_decide_eq_true (by kernel_rfl)) k2 bel (fun x hx => hlt x (by simp [hx])))

theorem identChain_holds : Rows.IdentChainSaid :=
  OpenClaim.holds_of_wide 4 Try.f4 rfl rfl rfl rfl rfl rfl rfl ⟨rfl, rfl, rfl, rfl, rfl⟩ rfl rfl rfl rfl rfl (by kernel_rfl) Try.func4 (by kernel_rfl)
    (of_decide_eq_true (by kernel_rfl)) (by unfold Func.isWrapper; rw [if_neg (of_decide_eq_false (by kernel_rfl))]; exact ⟨rfl, rfl⟩)
    (fun os started H enc _ => identChain_lifted os started H enc)
#print axioms identChain_holds
end Go.Proofs.Ytjokkmhndahnkaa
