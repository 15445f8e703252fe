/- The package pull, general: Next, whole. -/
import Derived.Test.YtfnecdkfhackkaaPg6
import Derived.Test.YtfnecdkfhackkaaPg7
import Derived.Test.YtfnecdkfhackkaaPg8
import Derived.Test.YtfnecdkfhackkaaPg9
import Derived.Test.YtfnecdkfhackkaaPg10
set_option linter.unusedVariables false
set_option linter.unusedSimpArgs false
namespace Go.Proofs.Ytfnecdkfhackkaa
open Go.RowKit
theorem settleI_none {x : PS} {e : PE} (hw : x.want = none) : settleI x e = chooseI x e := by
  have : clearI x e = x := by unfold clearI; rw [hw]
  unfold settleI; rw [this, if_pos hw]
theorem settleI_lack {x : PS} {e : PE} {f : Nat} {s : Int} {a : Bool} {t : Int} (hw : x.want = some (f, s, a, t)) (hl : lacksI x e f s = true) : settleI x e = x := by
  have : clearI x e = x := by unfold clearI; rw [hw]; simp only [hl, if_true]
  unfold settleI; rw [this, if_neg (by rw [hw]; exact fun h => by cases h)]
theorem settleI_lack_no {x : PS} {e : PE} {f : Nat} {s : Int} {a : Bool} {t : Int} (hw : x.want = some (f, s, a, t)) (hl : lacksI x e f s = false) : settleI x e = chooseI { x with want := none } e := by
  have : clearI x e = { x with want := none } := by unfold clearI; rw [hw]; simp [hl]
  unfold settleI; rw [this, if_pos rfl]
theorem nextI_of {x y : PS} {e : PE} {now : Int} (hs : settleI x e = y) {f : Nat} {s : Int} {a : Bool} {t : Int} (hw : y.want = some (f, s, a, t)) (h : ¬ (a = true ∧ nowI now - t < x.again)) :
    nextI x e now = (({ y with want := some (f, s, true, nowI now), count := u64w (x.count + 1), last := pickI y (helpersI x e f s) } : PS), ((f : Int), s), ((pickI y (helpersI x e f s) : Nat) : Int), true) := by
  subst hs
  unfold nextI
  split
  · rename_i h0; rw [hw] at h0; cases h0
  · rename_i f' s' a' t' h0
    rw [hw] at h0
    simp only [Option.some.injEq, Prod.mk.injEq] at h0
    obtain ⟨rfl, rfl, rfl, rfl⟩ := h0
    rw [if_neg h]
theorem nextI_no {x y : PS} {e : PE} {now : Int} (hs : settleI x e = y) (hw : y.want = none) : nextI x e now = (y, (0, 0), -1, false) := by
  subst hs
  unfold nextI
  split
  · rfl
  · rename_i f' s' a' t' h0
    rw [hw] at h0; cases h0
theorem nextI_soon {x y : PS} {e : PE} {now : Int} (hs : settleI x e = y) {f : Nat} {s : Int} {a : Bool} {t : Int} (hw : y.want = some (f, s, a, t)) (h : a = true ∧ nowI now - t < x.again) : nextI x e now = (y, (0, 0), -1, false) := by
  subst hs
  unfold nextI
  split
  · rfl
  · rename_i f' s' a' t' h0
    rw [hw] at h0
    simp only [Option.some.injEq, Prod.mk.injEq] at h0
    obtain ⟨rfl, rfl, rfl, rfl⟩ := h0
    rw [if_pos h]
theorem find_pick {x : PS} (hx : x.ok) {e : PE} {f : Nat} {s : Int} (h : lacksI x e f s = true) : ∃ q, (ringN x.n x.last).find? (fun (p : Nat) => (helpersI x e f s).contains (p : Int)) = some q := by
  have hl := (lacksI_help h).2.2
  cases hf : (ringN x.n x.last).find? (fun (p : Nat) => (helpersI x e f s).contains (p : Int)) with
  | some q => exact ⟨q, rfl⟩
  | none =>
    exfalso
    cases hh : helpersI x e f s with
    | nil => rw [hh] at hl; simp at hl
    | cons p l =>
      obtain ⟨_, _, _, _, i, rfl, hi⟩ := helpersI_mem (x := x) (e := e) (f := f) (s := s) (p := p) (by rw [hh]; simp)
      have := List.find?_eq_none.1 hf i (ringN_all hx.last hi)
      rw [hh] at this
      simp at this
/-- Next, whole. -/
theorem next_any {w : World} {e : PE} {vh vs : Value} {b rb : Nat} {G F O : Nat → Prop} (x : PS) (hx : x.ok) (px : Nat) (hE : Env w e vh vs b rb G F) (hP : PullAt w px O x) (hO : ∀ k, O k → k ≠ b ∧ k ≠ rb ∧ ¬ G k ∧ ¬ F k) (hOl : ∀ k, O k → k < w.heap.size) (now : Int) :
    Calls Try.prog 39 #[.pointer (some ⟨px, 0, none⟩), .int .i64 now, vh, .pointer (some ⟨b, 0, none⟩), vs] w fun r w' => NextOut w w' px O r (nextI x e now).1 (nextI x e now).2.1 (nextI x e now).2.2.1 (nextI x e now).2.2.2 := by
  obtain ⟨pv, h1, ho, hm⟩ := hP
  cases hw : x.want with
  | none =>
    rw [hw] at hm
    subst hm
    have hs := settleI_none (e := e) hw
    cases hf : (ringN x.n x.sender).find? (fun s => lacksI x e s (nextS e s)) with
    | none =>
      rw [nextI_no (y := x) (by rw [hs]; unfold chooseI; rw [hf]) hw]
      exact next_nobody x hx px hE ho hO hOl now _ rfl h1 hw hf
    | some s' =>
      have hl : lacksI x e s' (nextS e s') = true := by have h := List.find?_some hf; exact h
      rw [nextI_of (y := { x with want := some (s', nextS e s', false, 0), sender := s' }) (by rw [hs]; unfold chooseI; rw [hf]) rfl (by simp)]
      exact next_chosen x hx px hE ho hO hOl now _ rfl _ rfl _ s' h1 hf rfl (find_pick hx hl)
  | some z =>
    obtain ⟨f, s, a, t⟩ := z
    rw [hw] at hm
    obtain ⟨wb, rfl, hne, hwb, hB⟩ := hm
    cases hl : lacksI x e f s with
    | true =>
      have hs := settleI_lack (e := e) hw hl
      by_cases hso : a = true ∧ nowI now - t < x.again
      · rw [nextI_soon hs hw hso]
        exact next_soon x hx px hE ho hO hOl now _ rfl f s a t hw wb h1 hB hwb hne hso.1 hl hso.2
      · rw [nextI_of hs hw hso]
        cases a with
        | false => exact next_first_g x hx px hE ho hO hOl now _ rfl _ rfl _ f s false t hw wb h1 hB hwb hne rfl hl rfl (find_pick hx hl)
        | true => exact next_again x hx px hE ho hO hOl now _ rfl _ rfl _ f s true t hw wb h1 hB hwb hne rfl hl (fun h => hso ⟨rfl, h⟩) rfl (find_pick hx hl)
    | false =>
      have hs := settleI_lack_no (e := e) hw hl
      cases hf : (ringN x.n x.sender).find? (fun s => lacksI ({ x with want := none } : PS) e s (nextS e s)) with
      | none =>
        rw [nextI_no (y := { x with want := none }) (by rw [hs]; unfold chooseI; simp only [hf]) rfl]
        exact next_cleared x hx px hE ho hO hOl now _ rfl f s a t hw wb h1 hB hwb hne hl hf
      | some s' =>
        have hl' : lacksI ({ x with want := none } : PS) e s' (nextS e s') = true := by have h := List.find?_some hf; exact h
        rw [nextI_of (y := { x with want := some (s', nextS e s', false, 0), sender := s' }) (by rw [hs]; unfold chooseI; simp only [hf]) rfl (by simp)]
        exact next_other x hx px hE ho hO hOl now _ rfl _ rfl _ f s a t hw wb h1 hB hwb hne hl s' hf rfl (find_pick hx hl')
end Go.Proofs.Ytfnecdkfhackkaa
