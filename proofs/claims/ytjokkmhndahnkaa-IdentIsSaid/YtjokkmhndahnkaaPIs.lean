/- IdentIs: whether an id, and a run, may be, which of two ids stands ahead, and whether runs are rows, have an id, and how many they have, are the document's: for every input the law returns true, and the input reads as it did. -/
import Derived.Test.YtjokkmhndahnkaaRows
import Derived.Test.YtjokkmhndahnkaaIOp
import Derived.Test.YtjokkmhndahnkaaIIs
set_option linter.unusedVariables false
set_option linter.unusedSimpArgs false
namespace Go.Proofs.Ytjokkmhndahnkaa
open Go.ChangeShapes Go.WideShapes Go.ChangeAt Go.RowKit Go.Joins

set_option maxRecDepth 100000 in
theorem identIs_lifted (os : Os) (started : os.Started) (H : Type) (enc : TypeId × Value → H) :
    ReturnsInHanded {} Try.checked os 6 .any (Rows.identIsSpec.pre6 enc Try.prog Try.f6 Rows.identIsRow.domain false) (Rows.identIsSpec.post enc Try.prog Try.f6 false true false false) := by
  refine returnsInHanded_of_change (C := Try.checked) ownT started (by kernel_rfl) Try.func6
    (ChangeSpec.witness6 (enc := enc) (C := Try.checked) false ⟨#[], #[.agg #[.int .u8 0, .int .u64 0], .agg #[.int .u8 0, .int .u64 0], .int .i64 0, .agg #[.int .u8 0, .int .u64 0, .int .u64 0], .slice none 0 0], []⟩ 8 (by kernel_rfl) (by kernel_rfl) (by kernel_rfl) (by kernel_rfl)) ?_
  intro W base args ds gs before hval0 hW hcnd _
  have hval : ∀ (j : Nat) t v, Try.f6.params[j]? = some t → args[j]? = some v → Value.okWide Try.prog W .any base t v := hval0
  have hW' := hW
  obtain ⟨p, q, hA0, hV, rfl, hfz, hnd⟩ := hW
  have hA : DataW.TrodAll enc Try.prog W 0 (fun _ => true) true Try.f6.params.toList args.toList ds p := hA0
  rw [Try.params6] at hA hval
  obtain ⟨v0, v1, v2, v3, v4, d0, d1, d2, d3, d4, p0, p1, p2, p3, p4, rfl, rfl, rfl, h0, h1, h2, h3, h4⟩ := trodAll_five hA
  obtain ⟨rfl, rfl⟩ := trodVars_none hV
  have k0 := h0
  have k1 := h1
  have k2 := h2
  have k3 := h3
  have k4 := h4
  have hlt : ∀ x ∈ p0 ++ p1 ++ p2 ++ p3 ++ p4, x.block < W.heap.size := fun x hx => by simpa using hW'.lt x (by simpa using hx)
  clear hA0 hval0
  simp only [List.append_nil] at hW'
  obtain ⟨ps0, hps0⟩ : ∃ x, x = p0 := ⟨_, rfl⟩
  obtain ⟨ps1, hps1⟩ : ∃ x, x = p1 := ⟨_, rfl⟩
  obtain ⟨ps2, hps2⟩ : ∃ x, x = p2 := ⟨_, rfl⟩
  obtain ⟨ps3, hps3⟩ : ∃ x, x = p3 := ⟨_, rfl⟩
  obtain ⟨ps4, hps4⟩ : ∃ x, x = p4 := ⟨_, rfl⟩
  obtain ⟨c0_0, c0_1, y0_0, y0_1, m0, e0, _, _, hy0_0, hy0_1⟩ := open_agg2 Try.underlying33 (by kernel_rfl) cells33 (hval 0 33 v0 rfl rfl) h0
  obtain ⟨q0_0, f0_0, _, w0_0⟩ := DataW.trod_int Try.underlying5 hy0_0
  obtain ⟨q0_1, f0_1, _, w0_1⟩ := DataW.trod_int Try.underlying31 hy0_1
  simp at f0_0 f0_1
  obtain ⟨c1_0, c1_1, y1_0, y1_1, m1, e1, _, _, hy1_0, hy1_1⟩ := open_agg2 Try.underlying33 (by kernel_rfl) cells33 (hval 1 33 v1 rfl rfl) h1
  obtain ⟨q1_0, f1_0, _, w1_0⟩ := DataW.trod_int Try.underlying5 hy1_0
  obtain ⟨q1_1, f1_1, _, w1_1⟩ := DataW.trod_int Try.underlying31 hy1_1
  simp at f1_0 f1_1
  obtain ⟨x2, e2, _, _, w2⟩ := open_int Try.underlying3 (hval 2 3 v2 rfl rfl) h2
  obtain ⟨c3_0, c3_1, c3_2, y3_0, y3_1, y3_2, m3, e3, _, _, hy3_0, hy3_1, hy3_2⟩ := open_agg3 Try.underlying40 (by kernel_rfl) cells40 (hval 3 40 v3 rfl rfl) h3
  obtain ⟨q3_0, f3_0, _, w3_0⟩ := DataW.trod_int Try.underlying5 hy3_0
  obtain ⟨q3_1, f3_1, _, w3_1⟩ := DataW.trod_int Try.underlying31 hy3_1
  obtain ⟨q3_2, f3_2, _, w3_2⟩ := DataW.trod_int Try.underlying31 hy3_2
  simp at f3_0 f3_1 f3_2
  obtain ⟨a4, len4, cap4, e4⟩ := okWide_slice Try.underlying24 (hval 4 24 v4 rfl rfl)
  obtain ⟨l4, hl4⟩ := Opens.trod opens24 e4 h4
  subst f0_0 f0_1 e0 f1_0 f1_1 e1 e2 f3_0 f3_1 f3_2 e3
  refine (identIs_row q0_0 q0_1 (inr_wf w0_0) (inr_wf w0_1) q1_0 q1_1 (inr_wf w1_0) (inr_wf w1_1) x2 (inr_wf w2) q3_0 q3_1 q3_2 (inr_wf w3_0) (inr_wf w3_1) (inr_wf w3_2) v4 l4 W hl4).mono fun e W' ⟨he, hk⟩ => ?_
  subst he
  have bel : Below W.heap.size W W' := hk.below (Nat.le_refl _) (fun _ _ h => h)
  refine ⟨_, rfl, [d0, d1, d2, d3, d4], [], p0 ++ p1 ++ p2 ++ p3 ++ p4, [], p0 ++ p1 ++ p2 ++ p3 ++ p4, [], by simpa using hW', ?_, ?_, rfl, bel.frame _, fun h => by cases h⟩
  · exact trodAll_mk1 (shut_bool Try.underlying4 _)
  · simp only [List.append_assoc]
    exact trodAll_cons_mk (Below.trod laidT (by kernel_rfl) (of_decide_eq_true (by kernel_rfl)) k0 bel (fun x hx => hlt x (by simp [hx]))) (trodAll_mk4 (Below.trod laidT (by kernel_rfl) (of_decide_eq_true (by kernel_rfl)) k1 bel (fun x hx => hlt x (by simp [hx]))) (Below.trod laidT (by kernel_rfl) (of_decide_eq_true (by kernel_rfl)) k2 bel (fun x hx => hlt x (by simp [hx]))) (Below.trod laidT (by kernel_rfl) (of_decide_eq_true (by kernel_rfl)) k3 bel (fun x hx => hlt x (by simp [hx]))) (Below.trod laidT (by kernel_rfl) (of_decide_eq_true (by kernel_rfl)) k4 bel (fun x hx => hlt x (by simp [hx]))))

theorem identIs_holds : Rows.IdentIsSaid :=
  OpenClaim.holds_of_wide 6 Try.f6 rfl rfl rfl rfl rfl rfl rfl ⟨rfl, rfl, rfl, rfl, rfl⟩ rfl rfl rfl rfl rfl (by kernel_rfl) Try.func6 (by kernel_rfl)
    (of_decide_eq_true (by kernel_rfl)) (by unfold Func.isWrapper; rw [if_neg (of_decide_eq_false (by kernel_rfl))]; exact ⟨rfl, rfl⟩)
    (fun os started H enc _ => identIs_lifted os started H enc)
#print axioms identIs_holds
end Go.Proofs.Ytjokkmhndahnkaa
