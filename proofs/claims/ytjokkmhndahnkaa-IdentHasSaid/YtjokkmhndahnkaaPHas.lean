/- IdentHas: rows have just those ids that they list: for every input the law returns true, and the input reads as it did. -/
import Derived.Test.YtjokkmhndahnkaaRows
import Derived.Test.YtjokkmhndahnkaaIOp
import Derived.Test.YtjokkmhndahnkaaIHas
set_option linter.unusedVariables false
set_option linter.unusedSimpArgs false
namespace Go.Proofs.Ytjokkmhndahnkaa
open Go.ChangeShapes Go.WideShapes Go.ChangeAt Go.RowKit Go.Joins

set_option maxRecDepth 100000 in
theorem identHas_lifted (os : Os) (started : os.Started) (H : Type) (enc : TypeId × Value → H) :
    ReturnsInHanded {} Try.checked os 7 .any (Rows.identHasSpec.pre6 enc Try.prog Try.f7 Rows.identHasRow.domain false) (Rows.identHasSpec.post enc Try.prog Try.f7 false true false false) := by
  refine returnsInHanded_of_change (C := Try.checked) ownT started (by kernel_rfl) Try.func7
    (ChangeSpec.witness6 (enc := enc) (C := Try.checked) false ⟨#[], #[.slice none 0 0, .agg #[.int .u8 0, .int .u64 0]], []⟩ 8 (by kernel_rfl) (by kernel_rfl) (by kernel_rfl) (by kernel_rfl)) ?_
  intro W base args ds gs before hval0 hW hcnd _
  have hval : ∀ (j : Nat) t v, Try.f7.params[j]? = some t → args[j]? = some v → Value.okWide Try.prog W .any base t v := hval0
  have hW' := hW
  obtain ⟨p, q, hA0, hV, rfl, hfz, hnd⟩ := hW
  have hA : DataW.TrodAll enc Try.prog W 0 (fun _ => true) true Try.f7.params.toList args.toList ds p := hA0
  rw [Try.params7] at hA hval
  obtain ⟨v0, v1, d0, d1, p0, p1, rfl, rfl, rfl, h0, h1⟩ := trodAll_two hA
  obtain ⟨rfl, rfl⟩ := trodVars_none hV
  have k0 := h0
  have k1 := h1
  have hlt : ∀ x ∈ p0 ++ p1, x.block < W.heap.size := fun x hx => by simpa using hW'.lt x (by simpa using hx)
  clear hA0 hval0
  simp only [List.append_nil] at hW'
  obtain ⟨ps0, hps0⟩ : ∃ x, x = p0 := ⟨_, rfl⟩
  obtain ⟨ps1, hps1⟩ : ∃ x, x = p1 := ⟨_, rfl⟩
  obtain ⟨a0, len0, cap0, e0⟩ := okWide_slice Try.underlying24 (hval 0 24 v0 rfl rfl)
  obtain ⟨l0, hl0⟩ := Opens.trod opens24 e0 h0
  obtain ⟨c1_0, c1_1, y1_0, y1_1, m1, e1, _, _, hy1_0, hy1_1⟩ := open_agg2 Try.underlying33 (by kernel_rfl) cells33 (hval 1 33 v1 rfl rfl) h1
  obtain ⟨q1_0, f1_0, _, w1_0⟩ := DataW.trod_int Try.underlying5 hy1_0
  obtain ⟨q1_1, f1_1, _, w1_1⟩ := DataW.trod_int Try.underlying31 hy1_1
  simp at f1_0 f1_1
  subst f1_0 f1_1 e1
  refine (identHas_any v0 l0 q1_0 q1_1 (inr_wf w1_0) (inr_wf w1_1) W hl0).mono fun e W' ⟨he, hk⟩ => ?_
  subst he
  have bel : Below W.heap.size W W' := hk.below (Nat.le_refl _) (fun _ _ h => h)
  refine ⟨_, rfl, [d0, d1], [], p0 ++ p1, [], p0 ++ p1, [], by simpa using hW', ?_, ?_, rfl, bel.frame _, fun h => by cases h⟩
  · exact trodAll_mk1 (shut_bool Try.underlying4 _)
  · skip
    exact trodAll_mk2 (Below.trod laidT (by kernel_rfl) (of_decide_eq_true (by kernel_rfl)) k0 bel (fun x hx => hlt x (by simp [hx]))) (Below.trod laidT (by kernel_rfl) (of_decide_eq_true (by kernel_rfl)) k1 bel (fun x hx => hlt x (by simp [hx])))

theorem identHas_holds : Rows.IdentHasSaid :=
  OpenClaim.holds_of_wide 7 Try.f7 rfl rfl rfl rfl rfl rfl rfl ⟨rfl, rfl, rfl, rfl, rfl⟩ rfl rfl rfl rfl rfl (by kernel_rfl) Try.func7 (by kernel_rfl)
    (of_decide_eq_true (by kernel_rfl)) (by unfold Func.isWrapper; rw [if_neg (of_decide_eq_false (by kernel_rfl))]; exact ⟨rfl, rfl⟩)
    (fun os started H enc _ => identHas_lifted os started H enc)
#print axioms identHas_holds
end Go.Proofs.Ytjokkmhndahnkaa
