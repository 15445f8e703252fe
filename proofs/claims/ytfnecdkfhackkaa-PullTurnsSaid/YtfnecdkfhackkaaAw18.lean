/- The example of the stage: awake of unisonlaw18. -/
import Derived.Test.YtfnecdkfhackkaaMat6
set_option linter.unusedVariables false
set_option linter.unusedSimpArgs false
namespace Go.Proofs.Ytfnecdkfhackkaa
open Go.RowKit

theorem sl_one {k : IntKind} {w : World} {F : Nat → Prop} {b : Nat} {x : Int} (hc : w.cell? ⟨b, 0, none⟩ = some (.int k x)) (hx : InR k x) (hF : F b) : Sl (kI k) w F (.slice (some ⟨b, 0, none⟩) 1 1) [x] :=
  ⟨[.int k x], ⟨_, 1, rfl, Nat.le_refl _, by decide, rfl, fun u hu => by rw [List.mem_singleton.1 hu]; rfl, fun _ => ⟨b, 0, rfl, hF, fun j u hj => by
    cases j with
    | zero => have : Value.int k x = u := by simpa using hj
              subst this; simpa using hc
    | succ j => simp at hj⟩⟩, Reps.single (p := x) (c := [.int k x]) ⟨rfl, hx⟩ rfl⟩

def rowsA : List Row := tell (tell (List.replicate 2 (zrow 2)) 0 1 [3] [3]) 1 1 [1] [2]
theorem rowsA_stable : stableM 2 rowsA = [1, 0] := by decide
theorem rowsA_least : leastM rowsA = 1 := by decide
theorem tell_lit {b rb n : Nat} {rows : List Row} {G : Nat → Prop} (w : World) (h : MatAt w b rb n rows G) (p inst x y : Int) (hi : InR .u64 inst) (hx : InR .u64 x) (hy : InR .u64 y) :
    Calls Try.prog 16 #[.pointer (some ⟨b, 0, none⟩), .int .i64 p, .int .u64 inst, .slice (some ⟨w.heap.size, 0, none⟩) 1 1, .slice (some ⟨w.heap.size + 1, 0, none⟩) 1 1] ((w.alloc (.cells #[.int .u64 x] 26)).alloc (.cells #[.int .u64 y] 26)) fun e w' =>
      e = .returned (.tuple #[]) ∧ (∃ G', MatAt w' b rb n (tell rows p inst [x] [y]) G') ∧ Kept (fun k => k = rb) w w' := by
  have hk0 : Kept No w ((w.alloc (.cells #[.int .u64 x] 26)).alloc (.cells #[.int .u64 y] 26)) := ((Kept.refl No w).alloc _).alloc _
  have c1 : ((w.alloc (.cells #[.int .u64 x] 26)).alloc (.cells #[.int .u64 y] 26)).cell? ⟨w.heap.size, 0, none⟩ = some (.int .u64 x) := by
    refine Kept.cell (F := No) (w := w.alloc (.cells #[.int .u64 x] 26)) ((Kept.refl _ _).alloc _) ?_ id
    simp
  have c2 : ((w.alloc (.cells #[.int .u64 x] 26)).alloc (.cells #[.int .u64 y] 26)).cell? ⟨w.heap.size + 1, 0, none⟩ = some (.int .u64 y) := by
    rw [cell_of_row _ _ 0 #[.int .u64 y] 26 (0, 0) (by have := heap_alloc_new (w.alloc (.cells #[.int .u64 x] 26)) (.cells #[.int .u64 y] 26); simpa using this)]
    rfl
  have hrb := h.lt.2
  refine (tell_any (F := fun k => k = w.heap.size ∨ k = w.heap.size + 1) _ (h.new hk0) p inst hi _ _ [x] [y] (sl_one c1 hx (.inl rfl)) (sl_one c2 hy (.inr rfl)) (by omega) (by simp) (by simp)).mono ?_
  rintro e w' ⟨he, hm, hk⟩
  exact ⟨he, ⟨_, hm⟩, (hk0.mono fun _ _ h => h.elim).trans hk⟩
theorem two_cells {k : IntKind} {w : World} {F : Nat → Prop} {v : Value} {x y : Int} (h : Sl (kI k) w F v [x, y]) : ∃ b o c, v = .slice (some ⟨b, o, none⟩) 2 c ∧ w.cell? ⟨b, o, none⟩ = some (.int k x) ∧ w.cell? ⟨b, o + 1, none⟩ = some (.int k y) := by
  rcases h.ints with ⟨h, _⟩ | ⟨_, _, b, o, c, rfl, _, _, _, _, hc⟩
  · cases h
  · exact ⟨b, o, c, rfl, (hc 0 x rfl).1, (hc 1 y rfl).1⟩
set_option maxHeartbeats 1000000 in
theorem awake18_any (w : World) : Calls Try.prog 12 #[] w fun e w' => e = .returned (.bool true) ∧ Kept No w w' := by
  have hN := new_any 2 w
  rw [show (max 1 (min (2 : Int) 64)).toNat = 2 by decide] at hN
  go_enter Try.func12, Try.ntmps12
  go_wp2_with (first
    | (go_at_call 13; ((with_reducible refine hN.mono ?_); rintro e w1 ⟨b, rb, G, rfl, hm, hk, hrb, hb, hG⟩; have T1 := tell_lit w1 hm 0 1 3 3 (by simp [inr_u64]) (by simp [inr_u64]) (by simp [inr_u64]); have H1 : Hid (Kept No w w1 ∧ w.heap.size ≤ rb) := ⟨hk, hrb⟩; clear hm hk hrb hb hG))
    | (go_at_call 16; first
      | ((with_reducible refine T1.mono ?_); rintro e w2 ⟨rfl, ⟨G2, hm⟩, hk⟩; have T2 := tell_lit w2 hm 1 1 1 2 (by simp [inr_u64]) (by simp [inr_u64]) (by simp [inr_u64]); have H2 : Hid (Kept No w w2) := H1.out.1.trans2 hk (by have := H1.out.2; intro i hi e; omega); clear T1 hm hk)
      | ((with_reducible refine T2.mono ?_); rintro e w3 ⟨rfl, ⟨G3, hm⟩, hk⟩; have S3 := stable_any w3 hm; have H3 : Hid (Kept No w w3 ∧ MatAt w3 b rb 2 rowsA G3) := ⟨H2.out.trans2 hk (by have := H1.out.2; intro i hi e; omega), hm⟩; clear T2 hm hk))
    | (go_at_call 18; ((with_reducible refine S3.mono ?_); rintro e w4 ⟨v4, rfl, hs4, hk4⟩; rw [show stableM 2 (tell (tell (List.replicate 2 (zrow 2)) 0 1 [3] [3]) 1 1 [1] [2]) = [1, 0] from rowsA_stable] at hs4; have L4 := least_any w4 (H3.out.2.new hk4); rw [show leastM rowsA = 1 from rowsA_least] at L4; obtain ⟨b4, o4, c4, rfl, d0, d1⟩ := two_cells hs4; have H4 : Hid (Kept No w w4) := H3.out.1.trans hk4; clear hk4 hs4 S3))
    | (go_at_call 19; ((with_reducible refine L4.mono ?_); rintro e w5 ⟨rfl, hk5⟩)))
  go_ret
  exact ⟨rfl, H4.out.trans hk5⟩
end Go.Proofs.Ytfnecdkfhackkaa
