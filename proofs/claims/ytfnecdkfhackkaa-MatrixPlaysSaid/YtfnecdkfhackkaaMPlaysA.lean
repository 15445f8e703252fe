/- MatrixPlays: what an act does to a matrix, and to the reference's. -/
import Derived.Test.YtfnecdkfhackkaaR18h
set_option linter.unusedVariables false
set_option linter.unusedSimpArgs false
namespace Go.Proofs.Ytfnecdkfhackkaa
open Go.RowKit

/-- A matrix, the reference's in a box of its own, an id in another one. -/
structure Pl (w0 w : World) (b rb mb ib N : Nat) (f s : Int) (R RM : List Row) (G : Nat → Prop) (A : Option Addr) (c : Nat) : Prop where
  o : One w0 w b rb N R G
  m : w.heap[mb]? = some (.cells #[.slice A N c] 48 (0, 0))
  rs : Sl kRow w (fun j => j ≠ rb ∧ j ≠ mb ∧ j < w.heap.size) (.slice A N c) RM
  g : ¬ G mb
  n1 : b ≠ mb
  n2 : rb ≠ mb
  i1 : ib ≠ rb
  i2 : ib ≠ mb
  c0 : w.cell? ⟨ib, 0, none⟩ = some (.int .u8 f)
  c1 : w.cell? ⟨ib, 1, none⟩ = some (.int .u64 s)
  l : w0.heap.size ≤ mb
section
variable {w0 w w1 : World} {b rb mb ib N : Nat} {f s : Int} {R RM R' : List Row} {G G' : Nat → Prop} {A A' : Option Addr} {c c' : Nat}
theorem Pl.lt (h : Pl w0 w b rb mb ib N f s R RM G A c) : mb < w.heap.size ∧ rb < w.heap.size ∧ ib < w.heap.size := ⟨lt_of_heap h.m, h.o.m.lt.2, World.block_lt_of_cell? w _ h.c0⟩
theorem Pl.new (h : Pl w0 w b rb mb ib N f s R RM G A c) (hk : Kept No w w1) : Pl w0 w1 b rb mb ib N f s R RM G A c :=
  ⟨h.o.new hk, (hk.block _ h.lt.1 id).trans h.m, (h.rs.new hk).mono fun k hj _ => ⟨hj.1, hj.2.1, Nat.lt_of_lt_of_le hj.2.2 hk.size⟩, h.g, h.n1, h.n2, h.i1, h.i2, hk.cell h.c0 id, hk.cell h.c1 id, h.l⟩
theorem Pl.act (h : Pl w0 w b rb mb ib N f s R RM G A c) (ho : One w0 w1 b rb N R' G') (hk : Kept (fun k => k = rb) w w1) (hg : ¬ G' mb) : Pl w0 w1 b rb mb ib N f s R' RM G' A c :=
  ⟨ho, (hk.block _ h.lt.1 (fun e => h.n2 (Eq.symm e))).trans h.m, (h.rs.kept hk (fun k hk _ => hk.1)).mono fun k hj _ => ⟨hj.1, hj.2.1, Nat.lt_of_lt_of_le hj.2.2 hk.size⟩, hg, h.n1, h.n2, h.i1, h.i2, hk.cell h.c0 h.i1, hk.cell h.c1 h.i1, h.l⟩
theorem Pl.put {F : Nat → Prop} {RM' : List Row} (h : Pl w0 w b rb mb ib N f s R RM G A c) (hs : Sl kRow w F (.slice A' N c') RM') (hF : ∀ k, F k → k < w.heap.size → k ≠ rb ∧ k ≠ mb) : Pl w0 (w.setCell ⟨mb, 0, none⟩ (.slice A' N c')) b rb mb ib N f s R RM' G A' c' := by
  have hk : Kept (fun k => k = mb) w (w.setCell ⟨mb, 0, none⟩ (.slice A' N c')) := (Kept.refl (fun k => k = mb) w).setCell (p := ⟨mb, 0, none⟩) (fun _ => rfl) _
  refine ⟨⟨h.o.m.kept hk h.n1 h.n2 (fun k hk e => h.g (e ▸ hk)), h.o.k.trans2 hk (fun i hi e => by have := h.l; omega), h.o.l⟩, heap_put h.m, (hs.kept hk (fun k hk hlt => (hF k hk hlt).2)).mono fun k hj hlt => ?_, h.g, h.n1, h.n2, h.i1, h.i2, hk.cell h.c0 h.i2, hk.cell h.c1 h.i2, h.l⟩
  have hlt' : k < w.heap.size := by simpa using hlt
  exact ⟨(hF k hj hlt').1, (hF k hj hlt').2, hlt⟩
theorem Pl.flt (h : Pl w0 w b rb mb ib N f s R RM G A c) : ∀ k, (k ≠ rb ∧ k ≠ mb ∧ k < w.heap.size) → k < w.heap.size := fun k hk => hk.2.2
/-- What a method of the reference made of it. -/
theorem Pl.made (h : Pl w0 w b rb mb ib N f s R RM G A c) : ∀ k, ((k ≠ rb ∧ k ≠ mb ∧ k < w.heap.size) ∨ New w w1 k) → k ≠ rb ∧ k ≠ mb := fun k hk => by
  have := h.lt
  rcases hk with hk | hk
  · exact ⟨hk.1, hk.2.1⟩
  · have := hk.1; exact ⟨by omega, by omega⟩
theorem pl_gone {cb : Nat} (h : Pl w0 w b rb mb ib N f s R RM G A c) (p : Int) (hc : w.cell? ⟨cb, 0, none⟩ = some (.int .i64 p)) (hp : InR .i64 p) (hne : rb ≠ cb) :
    Calls Try.prog 15 #[.pointer (some ⟨b, 0, none⟩), .slice (some ⟨cb, 0, none⟩) 1 1] w fun e w' => e = .returned (.int .i64 (gone1n R p)) ∧ Pl w0 w' b rb mb ib N f s (gone1 R p) RM G A c ∧ Kept (fun k => k = rb) w w' := by
  refine (one_gone w h.o p hc hp hne).mono ?_
  rintro e w' ⟨h1, h2, h3⟩
  exact ⟨h1, h.act h2 h3 h.g, h3⟩
theorem pl_tell (h : Pl w0 w b rb mb ib N f s R RM G A c) (p inst : Int) (vd vh : Value) (done held : List Int) (hi : InR .u64 inst)
    (hd : Sl (kI .u64) w0 (Old w0) vd done) (hh : Sl (kI .u64) w0 (Old w0) vh held) (hld : done.length ≤ 100) (hlh : held.length ≤ 100) :
    Calls Try.prog 16 #[.pointer (some ⟨b, 0, none⟩), .int .i64 p, .int .u64 inst, vd, vh] w fun e w' => e = .returned (.tuple #[]) ∧ (∃ G, Pl w0 w' b rb mb ib N f s (tell R p inst done held) RM G A c) ∧ Kept (fun k => k = rb) w w' := by
  refine (tell_any (F := Old w0) w h.o.m p inst hi vd vh done held (hd.new h.o.k) (hh.new h.o.k) (fun e => by have := h.o.l; simp only [Old] at e; omega) (by omega) (by omega)).mono ?_
  rintro e w' ⟨h1, h2, h3⟩
  exact ⟨h1, ⟨_, h.act ⟨h2, h.o.k.trans2 h3 (fun i hi e => by have := h.o.l; omega), h.o.l⟩ h3 (fun e => e.elim h.g fun e => by have := e.1; have := h.lt.1; omega)⟩, h3⟩
end
theorem act_gone {w0 w5 : World} {b rb mb ib N : Nat} {f s : Int} {R : List Row} {G : Nat → Prop} {A : Option Addr} {c : Nat} (h5 : Pl w0 w5 b rb mb ib N f s R R G A c) (w6 : World) (A6 : Option Addr) (c6 : Nat) (p : Int) (hp : InR .i64 p)
    (hs6 : Sl kRow w6 (fun k => (k ≠ rb ∧ k ≠ mb ∧ k < w5.heap.size) ∨ New w5 w6 k) (.slice A6 N c6) (gone1 R p)) (hk6 : Kept No w5 w6) :
    Calls Try.prog 15 #[.pointer (some ⟨b, 0, none⟩), .slice (some ⟨w6.heap.size + 1, 0, none⟩) 1 1] (((w6.setCell ⟨mb, 0, none⟩ (.slice A6 N c6)).alloc (.cells #[.slice A6 N c6] 48)).alloc (.cells #[.int .i64 p] 3)) fun e w8 =>
      e = .returned (.int .i64 (gone1n R p)) ∧ Pl w0 w8 b rb mb ib N f s (gone1 R p) (gone1 R p) G A6 c6 ∧ Kept (fun k => k = rb ∨ k = mb) w6 w8 := by
  have h6 := h5.new hk6
  have hl := h6.lt
  have hcc : (((w6.setCell ⟨mb, 0, none⟩ (.slice A6 N c6)).alloc (.cells #[.slice A6 N c6] 48)).alloc (.cells #[.int .i64 p] 3)).cell? ⟨w6.heap.size + 1, 0, none⟩ = some (.int .i64 p) := by
    have := heap_alloc_new ((w6.setCell ⟨mb, 0, none⟩ (.slice A6 N c6)).alloc (.cells #[.slice A6 N c6] 48)) (.cells #[.int .i64 p] 3)
    simp only [World.size_alloc, World.size_setCell] at this
    rw [cell_of_row _ _ 0 _ _ _ this]; rfl
  have hP : Pl w0 (((w6.setCell ⟨mb, 0, none⟩ (.slice A6 N c6)).alloc (.cells #[.slice A6 N c6] 48)).alloc (.cells #[.int .i64 p] 3)) b rb mb ib N f s R (gone1 R p) G A6 c6 :=
    ((h6.put hs6 (fun k hk _ => h5.made k hk)).new ((Kept.refl _ _).alloc (.cells #[.slice A6 N c6] 48))).new ((Kept.refl _ _).alloc (.cells #[.int .i64 p] 3))
  refine (pl_gone hP p hcc hp (by omega)).mono ?_
  rintro e w8 ⟨h1, h2, h3⟩
  exact ⟨h1, h2, ((((Kept.refl _ w6).setCell (p := ⟨mb, 0, none⟩) (fun _ => .inr rfl) _).alloc _).alloc _).trans (h3.mono (fun _ _ e => .inl e))⟩
theorem act_tell {w0 w5 : World} {b rb mb ib N : Nat} {f s : Int} {R : List Row} {G : Nat → Prop} {A : Option Addr} {c : Nat} (h5 : Pl w0 w5 b rb mb ib N f s R R G A c) (w6 : World) (A6 : Option Addr) (c6 : Nat) (p inst : Int) (vd vh : Value) (done held : List Int) (hi : InR .u64 inst)
    (hd : Sl (kI .u64) w0 (Old w0) vd done) (hh : Sl (kI .u64) w0 (Old w0) vh held) (hld : done.length ≤ 100) (hlh : held.length ≤ 100)
    (hs6 : Sl kRow w6 (fun k => (k ≠ rb ∧ k ≠ mb ∧ k < w5.heap.size) ∨ New w5 w6 k) (.slice A6 N c6) (tell R p inst done held)) (hk6 : Kept No w5 w6) :
    Calls Try.prog 16 #[.pointer (some ⟨b, 0, none⟩), .int .i64 p, .int .u64 inst, vd, vh] (w6.setCell ⟨mb, 0, none⟩ (.slice A6 N c6)) fun e w8 =>
      e = .returned (.tuple #[]) ∧ (∃ G, Pl w0 w8 b rb mb ib N f s (tell R p inst done held) (tell R p inst done held) G A6 c6) ∧ Kept (fun k => k = rb ∨ k = mb) w6 w8 := by
  have h6 := h5.new hk6
  refine (pl_tell (h6.put hs6 (fun k hk _ => h5.made k hk)) p inst vd vh done held hi hd hh hld hlh).mono ?_
  rintro e w8 ⟨h1, h2, h3⟩
  exact ⟨h1, h2, ((Kept.refl _ w6).setCell (p := ⟨mb, 0, none⟩) (fun _ => .inr rfl) _).trans (h3.mono (fun _ _ e => .inl e))⟩
theorem agg40 {a b : Value} : Agg Try.prog 40 [a, b].length := Agg.mk' Try.underlying40 rfl (by kernel_rfl)
theorem Rise.len {rows rows' : List Row} (h : Rise rows rows') {n : Nat} (hl : rows.length = n) : rows'.length = n := by
  have key : ∀ i : Nat, rows[i]? = none ↔ rows'[i]? = none := fun i => by
    rcases h i with ⟨h1, h2⟩ | ⟨r, r', h1, h2, _⟩
    · rw [h1, h2]
    · rw [h1, h2]; simp
  have h1 := (key rows'.length).2 (List.getElem?_eq_none_iff.2 (Nat.le_refl _))
  have h2 := (key rows.length).1 (List.getElem?_eq_none_iff.2 (Nat.le_refl _))
  rw [List.getElem?_eq_none_iff] at h1 h2
  omega
theorem of_dec_none {R : List Row} {N : Nat} {p : Int} (hl : R.length = N) (h : rowAt R p = none) : (decide (0 ≤ p) && decide (p < N)) = false := by
  unfold rowAt at h
  by_cases hp : p < 0
  · simp; omega
  · rw [if_neg hp] at h
    have := List.getElem?_eq_none_iff.1 h
    simp; omega
theorem row_nat {R : List Row} {N : Nat} {p : Int} {r : Row} (hl : R.length = N) (h : rowAt R p = some r) : ∃ q : Nat, p = q ∧ R[q]? = some r ∧ q < N := by
  unfold rowAt at h
  by_cases hp : p < 0
  · simp [hp] at h
  · rw [if_neg hp] at h
    exact ⟨p.toNat, by omega, h, by rw [← hl]; exact (List.getElem?_eq_some_iff.1 h).1⟩
theorem of_dec_some {R : List Row} {N : Nat} {p : Int} {r : Row} (hl : R.length = N) (h : rowAt R p = some r) : (decide (0 ≤ p) && decide (p < N)) = true := by
  obtain ⟨q, rfl, _, hq⟩ := row_nat hl h
  simp; omega
theorem new18_any (n : Int) (hn : ¬ 20 < n) (w : World) : Calls Try.prog 28 #[.int .i64 n] w fun e w' => ∃ A' c', e = .returned (.agg #[.slice A' (max 1 (min n 64)).toNat c']) ∧ Sl kRow w' (New w w') (.slice A' (max 1 (min n 64)).toNat c') (List.replicate (max 1 (min n 64)).toNat (zrow (max 1 (min n 64)).toNat)) ∧ Kept No w w' := by
  by_cases h : n < 1
  · rw [show (max 1 (min n 64)).toNat = 1 by omega]; exact new18_low n h w
  · obtain ⟨N, rfl⟩ : ∃ N : Nat, n = N := ⟨n.toNat, by omega⟩
    rw [show (max 1 (min (N : Int) 64)).toNat = N by omega]; exact new18_nat N (by omega) (by omega) w

end Go.Proofs.Ytfnecdkfhackkaa
