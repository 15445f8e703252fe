/- What an argument reads as, as cells of a kind: numbers, bools, slices of whatever kind. Plain lemmas, no program. -/
import Derived.Test.YtfnecdkfhackkaaKinds
import Derived.ProofKit
import Derived.OpenShut
import Derived.Carry
import Derived.Lib.SmallJoins
import Derived.Deep.Slices
set_option linter.unusedVariables false
set_option linter.unusedSimpArgs false
namespace Go.Proofs.Ytfnecdkfhackkaa
open Go.ChangeShapes Go.WideShapes Go.ChangeAt Go.RowKit Go.Joins

def Old (w : World) : Nat → Prop := fun k => k < w.heap.size
/-- What reads at type t, is of kind d. -/
def Opens {α : Type} (P : Program) (t : TypeId) (d : Kd α) : Prop := ∀ (H : Type) (enc : TypeId × Value → H) (w : World) (held : Bool) (fuel : Nat) (cs : List Value) (x : DataW H × List MemPlace),
  DataW.trod enc P w 0 (fun _ => true) held fuel t cs = some x → ∃ p, d.K w (Old w) p cs
section
variable {P : Program}
theorem inr_wf {k : IntKind} {n : Int} (h : (Lit.int k n).wf = true) : InR k n := by
  simp only [Lit.wf, Bool.and_eq_true, decide_eq_true_eq] at h; exact h
theorem opens_int {t : TypeId} {k : IntKind} (ht : P.underlying t = some (.int k)) : Opens P t (kI k) := by
  intro H enc w held fuel cs x h
  obtain ⟨n, rfl, _, hw⟩ := DataW.trod_int ht h
  exact ⟨n, rfl, inr_wf hw⟩
theorem opens_bool {t : TypeId} (ht : P.underlying t = some .bool) : Opens P t kB := by
  intro H enc w held fuel cs x h
  obtain ⟨b, rfl, _⟩ := DataW.trod_bool ht h
  exact ⟨b, rfl, trivial⟩
theorem opens_slice {α : Type} {d : Kd α} {t e : TypeId} (ht : P.underlying t = some (.slice e)) (hs : P.cellsOf e = d.sz) (hz : 0 < d.sz) (hd : Opens P e d) : Opens P t (kSl d) := by
  intro H enc w held fuel cs x h
  rcases Go.Deep.open_slice ht h with ⟨rfl, _⟩ | ⟨a, len, cap, m, n, D, Pl, rfl, hb, hl, hm, hmm, _, hel⟩
  · exact ⟨[], _, rfl, Sl.nil _ _ _⟩
  · have hmm : m = cap := by simpa using hmm
    subst hmm
    have key : ∀ k, k ≤ len → ∃ ps cs, ps.length = k ∧ Reps (d.K w (Old w)) d.sz ps cs ∧ (0 < cs.length → a.spot = none) ∧ ∀ j u, cs[j]? = some u → w.cell? ⟨a.block, a.off + j, none⟩ = some u := by
      intro k
      induction k with
      | zero => intro _; exact ⟨[], [], rfl, Reps.none _ _, fun h => by simp at h, fun j u h => by simp at h⟩
      | succ k ih =>
        intro hk
        obtain ⟨ps, cs, h1, h2, h3, h4⟩ := ih (by omega)
        obtain ⟨cs', h5, h6⟩ := hel k (by omega)
        obtain ⟨p, hp⟩ := hd H enc w held n cs' _ h6
        obtain ⟨_, h7, h8⟩ := World.cells?_some h5
        rw [hs] at h7 h8
        have hcl := h2.1
        rw [h1] at hcl
        have hsp : a.spot = none := by
          rcases Nat.eq_zero_or_pos k with hk0 | hk0
          · subst hk0
            have h9 := h8 0 hz
            obtain ⟨c0, hc0⟩ : ∃ c0, cs'[0]? = some c0 := ⟨_, List.getElem?_eq_getElem (by omega)⟩
            rw [hc0] at h9
            simpa [Addr.add] using World.cell?_spot h9
          · exact h3 (by rw [hcl]; exact Nat.mul_pos hk0 hz)
        refine ⟨ps ++ [p], cs ++ cs', by simp [h1], h2.append (Reps.single hp h7), fun _ => hsp, fun j u hj => ?_⟩
        rcases Nat.lt_or_ge j cs.length with hj1 | hj1
        · rw [List.getElem?_append_left hj1] at hj; exact h4 j u hj
        · rw [List.getElem?_append_right hj1] at hj
          have h10 := h8 (j - cs.length) (by have := (List.getElem?_eq_some_iff.1 hj).1; omega)
          rw [hj] at h10
          obtain ⟨b, off, spot⟩ := a
          simp only at hsp h10 ⊢
          subst hsp
          have e : (((⟨b, off, none⟩ : Addr).add (k * d.sz)).add (j - cs.length)) = ⟨b, off + j, none⟩ := by
            rw [Addr.add_lit, Addr.add_lit]; congr 1; rw [hcl] at hj1 ⊢; omega
          rw [e] at h10
          exact h10
    obtain ⟨ps, cs, h1, h2, h3, h4⟩ := key len (Nat.le_refl _)
    refine ⟨ps, _, rfl, cs, ⟨some a, m, by rw [h1], by rw [h1]; exact hl, hm, h2.1, h2.one fun _ _ => d.one, fun hp => ?_⟩, h2⟩
    obtain ⟨u, hu⟩ : ∃ u, cs[0]? = some u := ⟨_, List.getElem?_eq_getElem hp⟩
    have hc := h4 0 u hu
    refine ⟨a.block, a.off, ?_, World.block_lt_of_cell? w ⟨a.block, a.off + 0, none⟩ hc, h4⟩
    have := h3 hp
    cases a; simp only at this; rw [this]

/-- An argument of one cell. -/
theorem Opens.trod {α : Type} {d : Kd α} {t : TypeId} (ho : Opens P t (kSl d)) {H : Type} {enc : TypeId × Value → H} {w : World} {held : Bool} {v : Value} {x : DataW H} {p : List MemPlace} {a : Option Addr} {len cap : Nat} (hv : v = .slice a len cap)
    (h : DataW.Trod enc P w 0 (fun _ => true) held t v x p) : ∃ ps, Sl d w (Old w) v ps := by
  obtain ⟨fuel, hf⟩ := h
  subst hv
  obtain ⟨ps, v', h1, h2⟩ := ho H enc w held fuel _ _ hf
  simp [Value.cells] at h1
  subst h1
  exact ⟨ps, h2⟩
end
end Go.Proofs.Ytfnecdkfhackkaa
