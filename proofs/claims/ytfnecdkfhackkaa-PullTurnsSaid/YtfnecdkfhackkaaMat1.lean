/- The package matrix, first part: what its memory holds; of, rise, Tell. -/
import Derived.Test.YtfnecdkfhackkaaClone
import Derived.Test.YtfnecdkfhackkaaWhole
set_option linter.unusedVariables false
set_option linter.unusedSimpArgs false
namespace Go.Proofs.Ytfnecdkfhackkaa
open Go.RowKit

theorem vecmax_any (v : Value) (ls : List (List Int)) (w : World) (F : Nat → Prop) (h : Sl (kSl (kI .u64)) w F v ls) (hreach : ∀ a ∈ ls, a.length ≤ 17592186044415) :
    Calls Try.prog 49 #[v] w fun e w' => ∃ v', e = .returned v' ∧ TW (kI .u64) 26 w' No v' (vfold max ls) ∧ Fresh w v' ∧ Kept No w w' := by
  have hf := fold_max v ls w F h hreach
  clear h hreach
  go_enter Try.func49, Try.ntmps49
  go_wp2_with (go_at_call 68; ((with_reducible refine hf.mono ?_); rintro e w' ⟨v', rfl, ht, hfr, hk⟩))
  go_ret
  exact ⟨_, rfl, ht, hfr, hk⟩
theorem vecmin_any (v : Value) (ls : List (List Int)) (w : World) (F : Nat → Prop) (h : Sl (kSl (kI .u64)) w F v ls) (hreach : ∀ a ∈ ls, a.length ≤ 17592186044415) :
    Calls Try.prog 48 #[v] w fun e w' => ∃ v', e = .returned v' ∧ TW (kI .u64) 26 w' No v' (vfold min ls) ∧ Fresh w v' ∧ Kept No w w' := by
  have hf := fold_min v ls w F h hreach
  clear h hreach
  go_enter Try.func48, Try.ntmps48
  go_wp2_with (go_at_call 68; ((with_reducible refine hf.mono ?_); rintro e w' ⟨v', rfl, ht, hfr, hk⟩))
  go_ret
  exact ⟨_, rfl, ht, hfr, hk⟩

structure Row where
  inst : Int
  done : List Int
  held : List Int
  gone : Bool
def kRow : Kd Row where
  sz := 4
  K := fun w F r cs => ∃ vd vh, cs = [.int .u64 r.inst, vd, vh, .bool r.gone] ∧ InR .u64 r.inst ∧ Sl (kI .u64) w F vd r.done ∧ Sl (kI .u64) w F vh r.held
  len := by rintro w F x cs ⟨vd, vh, rfl, _⟩; rfl
  one := by
    rintro w F x cs ⟨vd, vh, rfl, _, h1, h2⟩ u hu
    obtain ⟨A, c, rfl, _⟩ := h1.slice
    obtain ⟨A2, c2, rfl, _⟩ := h2.slice
    simp only [List.mem_cons, List.not_mem_nil, or_false] at hu
    rcases hu with rfl | rfl | rfl | rfl <;> rfl
  mono := by rintro w F F' x cs hf ⟨vd, vh, rfl, h0, h1, h2⟩; exact ⟨vd, vh, rfl, h0, h1.mono hf, h2.mono hf⟩
  move := by rintro w w1 F x cs hm ⟨vd, vh, rfl, h0, h1, h2⟩; exact ⟨vd, vh, rfl, h0, h1.move hm, h2.move hm⟩

theorem chunk4 {cs : List Value} {n : Nat} {a b c d : Value} (h0 : cs[n]? = some a) (h1 : cs[n + 1]? = some b) (h2 : cs[n + 2]? = some c) (h3 : cs[n + 3]? = some d) : (cs.drop n).take 4 = [a, b, c, d] := by
  apply List.ext_getElem?
  intro i
  rw [List.getElem?_take, List.getElem?_drop]
  match i with
  | 0 => simpa using h0
  | 1 => simpa using h1
  | 2 => simpa using h2
  | 3 => simpa using h3
  | i + 4 => simp; omega

/-- At block b lies a matrix; its rows in block rb; what they lead to, in G. -/
structure MatAt (w : World) (b rb : Nat) (n : Nat) (rows : List Row) (G : Nat → Prop) : Prop where
  head : w.heap[b]? = some (.cells #[.slice (some ⟨rb, 0, none⟩) n n] 78 (0, 0))
  row : ∃ cur, w.heap[rb]? = some (.cells cur 80 (0, 0)) ∧ Reps (kRow.K w G) 4 rows cur.toList
  len : rows.length = n
  pos : 1 ≤ n
  le : n ≤ 64
  gb : ¬ G b
  gr : ¬ G rb
  ne : b ≠ rb
  glt : ∀ k, G k → k < w.heap.size
  wide : ∀ r ∈ rows, r.done.length = n ∧ r.held.length = n

theorem MatAt.kept {w w1 : World} {F G : Nat → Prop} {b rb n : Nat} {rows : List Row} (h : MatAt w b rb n rows G) (hk : Kept F w w1) (hb : ¬ F b) (hr : ¬ F rb) (hg : ∀ k, G k → ¬ F k) : MatAt w1 b rb n rows G := by
  obtain ⟨cur, h1, h2⟩ := h.row
  exact ⟨(hk.block b (lt_of_heap h.head) hb).trans h.head, ⟨cur, (hk.block rb (lt_of_heap h1) hr).trans h1, h2.imp fun _ _ => kRow.move fun k hk' hlt => hk.block k hlt (hg k hk')⟩, h.len, h.pos, h.le, h.gb, h.gr, h.ne,
    fun k hk' => Nat.lt_of_lt_of_le (h.glt k hk') hk.size, h.wide⟩
theorem MatAt.new {w w1 : World} {G : Nat → Prop} {b rb n : Nat} {rows : List Row} (h : MatAt w b rb n rows G) (hk : Kept No w w1) : MatAt w1 b rb n rows G := h.kept hk id id fun _ _ h => h
theorem MatAt.c0 {w : World} {G : Nat → Prop} {b rb n : Nat} {rows : List Row} (h : MatAt w b rb n rows G) : w.cell? ⟨b, 0, none⟩ = some (.slice (some ⟨rb, 0, none⟩) n n) := by
  rw [cell_of_row w b 0 _ _ _ h.head]; rfl
/-- Row p's four cells. -/
theorem MatAt.at_ {w : World} {G : Nat → Prop} {b rb n : Nat} {rows : List Row} (h : MatAt w b rb n rows G) {p : Nat} {r : Row} (hp : rows[p]? = some r) :
    ∃ vd vh, w.cell? ⟨rb, p * 4, none⟩ = some (.int .u64 r.inst) ∧ w.cell? ⟨rb, p * 4 + 1, none⟩ = some vd ∧ w.cell? ⟨rb, p * 4 + 2, none⟩ = some vh ∧ w.cell? ⟨rb, p * 4 + 3, none⟩ = some (.bool r.gone) ∧
      InR .u64 r.inst ∧ Sl (kI .u64) w G vd r.done ∧ Sl (kI .u64) w G vh r.held := by
  obtain ⟨cur, h1, h2⟩ := h.row
  obtain ⟨c, ⟨vd, vh, rfl, h3, h4, h5⟩, hc⟩ := h2.get hp
  have hcell : ∀ i u, [Value.int .u64 r.inst, vd, vh, .bool r.gone][i]? = some u → w.cell? ⟨rb, p * 4 + i, none⟩ = some u := fun i u hu => by
    rw [cell_of_row w rb _ _ _ _ h1]
    have := hc i u hu
    simpa using this
  exact ⟨vd, vh, by simpa using hcell 0 _ rfl, hcell 1 _ rfl, hcell 2 _ rfl, hcell 3 _ rfl, h3, h4, h5⟩
theorem MatAt.fro {w : World} {G : Nat → Prop} {b rb n : Nat} {rows : List Row} (h : MatAt w b rb n rows G) (j : Nat) : w.frozen? ⟨rb, j, none⟩ = false := by
  obtain ⟨cur, h1, _⟩ := h.row
  exact frozen_of_row w rb j cur _ h1
theorem MatAt.lt {w : World} {G : Nat → Prop} {b rb n : Nat} {rows : List Row} (h : MatAt w b rb n rows G) : b < w.heap.size ∧ rb < w.heap.size := by
  obtain ⟨cur, h1, _⟩ := h.row
  exact ⟨lt_of_heap h.head, lt_of_heap h1⟩

theorem of_nil (p : Int) (w : World) : Calls Try.prog 45 #[.pointer none, .int .i64 p] w fun e w' => e = .returned (.pointer none) ∧ w = w' := by
  go_enter Try.func45, Try.ntmps45
  go_wp2
  go_ret
  exact ⟨rfl, rfl⟩
theorem of_neg {b rb n : Nat} (p : Int) (w : World) (hc : w.cell? ⟨b, 0, none⟩ = some (.slice (some ⟨rb, 0, none⟩) n n)) (hp : p < 0) : Calls Try.prog 45 #[.pointer (some ⟨b, 0, none⟩), .int .i64 p] w fun e w' => e = .returned (.pointer none) ∧ w = w' := by
  go_enter Try.func45, Try.ntmps45
  go_wp2
  go_ret
  exact ⟨rfl, rfl⟩
theorem of_far {b rb n : Nat} (p : Int) (w : World) (hc : w.cell? ⟨b, 0, none⟩ = some (.slice (some ⟨rb, 0, none⟩) n n)) (hp : (n : Int) ≤ p) : Calls Try.prog 45 #[.pointer (some ⟨b, 0, none⟩), .int .i64 p] w fun e w' => e = .returned (.pointer none) ∧ w = w' := by
  have h0 : ¬ p < 0 := by omega
  go_enter Try.func45, Try.ntmps45
  go_wp2
  go_ret
  exact ⟨rfl, rfl⟩
theorem of_in {b rb n : Nat} (p : Nat) (w : World) (hc : w.cell? ⟨b, 0, none⟩ = some (.slice (some ⟨rb, 0, none⟩) n n)) (hp : p < n) (hn : n ≤ 64) : Calls Try.prog 45 #[.pointer (some ⟨b, 0, none⟩), .int .i64 p] w fun e w' => e = .returned (.pointer (some ⟨rb, p * 4, none⟩)) ∧ w = w' := by
  have h0 : ¬ (p : Int) < 0 := by omega
  have h1 : ¬ (n : Int) ≤ (p : Int) := by omega
  go_enter Try.func45, Try.ntmps45
  go_wp2
  go_ret
  exact ⟨rfl, rfl⟩

/-- A vector that has risen to another one. -/
def vrise (a b : List Int) : List Int := (vfold max [a, b]).take a.length

theorem rise_any (va vb : Value) (a b : List Int) (w : World) (F : Nat → Prop) (ha : Sl (kI .u64) w F va a) (hb : Sl (kI .u64) w F vb b) (hla : a.length ≤ 17592186044415) (hlb : b.length ≤ 17592186044415) :
    Calls Try.prog 46 #[va, vb] w fun e w' => ∃ v', e = .returned v' ∧ Sl (kI .u64) w' (New w w') v' (vrise a b) ∧ Kept No w w' := by
  obtain ⟨A1, c1, rfl, h1, h2⟩ := ha.slice
  obtain ⟨A2, c2, rfl, h3, h4⟩ := hb.slice
  have hsrc : Sl (kSl (kI .u64)) (w.alloc (.cells #[.slice A1 a.length c1, .slice A2 b.length c2] 27)) (fun k => F k ∨ k = w.heap.size) (.slice (some ⟨w.heap.size, 0, none⟩) 2 2) [a, b] := by
    have hm : ∀ k, F k → k < w.heap.size → (w.alloc (.cells #[.slice A1 a.length c1, .slice A2 b.length c2] 27)).heap[k]? = w.heap[k]? := fun k _ hk => Below.heap_alloc _ _ _ hk
    refine ⟨[.slice A1 a.length c1, .slice A2 b.length c2], ⟨_, 2, rfl, Nat.le_refl _, by decide, rfl, by simp [Value.oneCell'], fun _ => ⟨w.heap.size, 0, rfl, .inr rfl, fun j u hj => ?_⟩⟩, ?_⟩
    · match j with
      | 0 => simpa using hj
      | 1 => simpa using hj
      | j + 2 => simp at hj
    · exact (Reps.single (R := (kSl (kI .u64)).K _ _) (p := a) (c := [.slice A1 a.length c1]) ⟨_, rfl, (ha.move hm).mono fun k hk _ => .inl hk⟩ rfl).append (Reps.single (p := b) (c := [.slice A2 b.length c2]) ⟨_, rfl, (hb.move hm).mono fun k hk _ => .inl hk⟩ rfl)
  have hM := vecmax_any _ _ _ _ hsrc (by simp; omega)
  have hvl : a.length ≤ (vfold max [a, b]).length := by simp [vfold, vlen]; omega
  obtain ⟨L, hL⟩ : ∃ L, L = a.length := ⟨_, rfl⟩
  rw [← hL] at hM hla
  have HL : Hid (L = a.length ∧ a.length ≤ (vfold max [a, b]).length) := ⟨hL, hvl⟩
  clear hsrc hvl ha hb h1 h2 h3 h4 hlb
  rw [← hL]
  clear hL
  go_enter Try.func46, Try.ntmps46
  go_wp2_with (go_at_call 49; ((with_reducible refine hM.mono ?_); rintro e w' ⟨v', rfl, ht, hfr, hk⟩; obtain ⟨A, c, rfl, hc1, hc2⟩ := ht.slice; obtain ⟨M, hM2⟩ : ∃ M, M = (vfold max [a, b]).length := ⟨_, rfl⟩; rw [← hM2] at hc1 ⊢; have HT : Hid (TW (kI .u64) 26 w' No (.slice A (vfold max [a, b]).length c) (vfold max [a, b]) ∧ Fresh (w.alloc (.cells #[.slice A1 L c1, .slice A2 b.length c2] 27)) (.slice A (vfold max [a, b]).length c) ∧ Kept No (w.alloc (.cells #[.slice A1 L c1, .slice A2 b.length c2] 27)) w' ∧ M = (vfold max [a, b]).length) := ⟨ht, hfr, hk, hM2⟩; have hLc : L ≤ c := (by have := HL.out; omega); clear ht hfr hk hM2))
  go_ret
  obtain ⟨ht, hfr, hk, hM2⟩ := HT.out
  rw [← hM2] at ht hfr
  have hs := (ht.slNew hfr).take (k := L) (by have := HL.out; omega)
  rw [vrise, ← HL.out.1]
  exact ⟨_, rfl, hs.mono fun k hk _ => ⟨by have := hk.1; simp at this; omega, hk.2⟩, ((Kept.refl _ _).alloc _).trans hk⟩

/-- What a process told, taken note of. -/
def tellRow (r : Row) (inst : Int) (done held : List Int) : Row := { r with inst := max r.inst inst, done := vrise r.done done, held := vrise r.held held }
def tell (rows : List Row) (p : Int) (inst : Int) (done held : List Int) : List Row :=
  if p < 0 then rows else match rows[p.toNat]? with
    | some r => rows.set p.toNat (tellRow r inst done held)
    | none => rows

/-- What three stores into a row's cells leave. -/
theorem MatAt.put {w w1 : World} {G G' : Nat → Prop} {b rb n : Nat} {rows : List Row} (h : MatAt w b rb n rows G) {p : Nat} (hp : p < n) {r' : Row} {vd vh : Value}
    (hk : Kept (fun k => k = rb) w w1) (hg : ∀ k, G k → G' k) (hgb : ¬ G' b) (hgr : ¬ G' rb) (hglt : ∀ k, G' k → k < w1.heap.size) {cur cur' : Array Value} (hc : w.heap[rb]? = some (.cells cur 80 (0, 0)))
    (hc' : w1.heap[rb]? = some (.cells cur' 80 (0, 0))) (hs : cur'.size = cur.size) (hout : ∀ i, (i < p * 4 ∨ (p + 1) * 4 ≤ i) → cur'[i]? = cur[i]?)
    (h0 : cur'[p * 4]? = some (.int .u64 r'.inst)) (h1 : cur'[p * 4 + 1]? = some vd) (h2 : cur'[p * 4 + 2]? = some vh) (h3 : cur'[p * 4 + 3]? = some (.bool r'.gone))
    (hi : InR .u64 r'.inst) (hsd : Sl (kI .u64) w1 G' vd r'.done) (hsh : Sl (kI .u64) w1 G' vh r'.held) (hw : r'.done.length = n ∧ r'.held.length = n) : MatAt w1 b rb n (rows.set p r') G' := by
  obtain ⟨cur0, hc0, hr⟩ := h.row
  rw [hc] at hc0
  simp only [Option.some.injEq, Obj.cells.injEq, and_true] at hc0
  subst hc0
  have hr1 : Reps (kRow.K w1 G') 4 rows cur.toList := hr.imp fun x cs hx => kRow.mono (fun k hk' _ => hg k hk') (kRow.move (fun k hk' hlt => hk.block k hlt (fun e => h.gr (e ▸ hk'))) hx)
  refine ⟨(hk.block b h.lt.1 h.ne).trans h.head, ⟨cur', hc', hr1.setAt (by rw [h.len]; exact hp) (by simpa using hs) (fun i hi => by simpa using hout i hi) ⟨vd, vh, chunk4 (by simpa using h0) (by simpa using h1) (by simpa using h2) (by simpa using h3), hi, hsd, hsh⟩⟩,
    by rw [List.length_set]; exact h.len, h.pos, h.le, hgb, hgr, h.ne, hglt, fun r hr' => ?_⟩
  rcases List.mem_or_eq_of_mem_set hr' with h4 | h4
  · exact h.wide r h4
  · rw [h4]; exact hw

theorem vrise_len (a b : List Int) : (vrise a b).length = a.length := by
  simp [vrise, vfold, vlen]; omega

theorem tell_end {b rb n : Nat} {rows : List Row} {G : Nat → Prop} {w w2 w3 : World} (h : MatAt w b rb n rows G) {p : Nat} {r : Row} (hp : rows[p]? = some r) {inst s : Int} (hs : s = max r.inst inst) (hi : InR .u64 inst) {v5 v6 : Value} {done held : List Int}
    (hk5 : Kept No (w.setCell ⟨rb, p * 4, none⟩ (.int .u64 s)).drew w2) (hk6 : Kept No w2 w3) (hs5 : Sl (kI .u64) w2 (New (w.setCell ⟨rb, p * 4, none⟩ (.int .u64 s)).drew w2) v5 (vrise r.done done))
    (hs6 : Sl (kI .u64) w3 (New w2 w3) v6 (vrise r.held held)) :
    MatAt ((w3.setCell ⟨rb, p * 4 + 1, none⟩ v5).setCell ⟨rb, p * 4 + 2, none⟩ v6) b rb n (rows.set p (tellRow r inst done held)) (fun k => G k ∨ New w ((w3.setCell ⟨rb, p * 4 + 1, none⟩ v5).setCell ⟨rb, p * 4 + 2, none⟩ v6) k) ∧
      Kept (fun k => k = rb) w ((w3.setCell ⟨rb, p * 4 + 1, none⟩ v5).setCell ⟨rb, p * 4 + 2, none⟩ v6) := by
  subst hs
  have hpn : p < n := by rw [← h.len]; exact (List.getElem?_eq_some_iff.1 hp).1
  have hrb := h.lt.2
  have hri := (h.at_ hp).choose_spec.choose_spec.2.2.2.2.1
  have hc3 := (h.at_ hp).choose_spec.choose_spec.2.2.2.1
  have hz5 := hk5.size
  have hz6 := hk6.size
  simp only [World.size_drew, World.size_setCell] at hz5
  obtain ⟨cur, e0, hr0⟩ := h.row
  have hcs : cur.size = n * 4 := by have := hr0.1; rw [h.len] at this; simpa using this
  have e1 := heap_setCell_same w rb (p * 4) cur 80 (.int .u64 (max r.inst inst)) e0
  have e3 := (hk6.block rb (by omega) id).trans ((hk5.block rb (by simpa using hrb) id).trans e1)
  have e4 := heap_setCell_same w3 rb (p * 4 + 1) _ 80 v5 e3
  have e5 := heap_setCell_same _ rb (p * 4 + 2) _ 80 v6 e4
  have hk3 : Kept (fun k => k = rb) w w3 := (((Kept.refl (fun k => k = rb) w).setCell (p := ⟨rb, p * 4, none⟩) (fun _ => rfl) _).drew.trans hk5.no).trans hk6.no
  have hkf : Kept (fun k => k = rb) w ((w3.setCell ⟨rb, p * 4 + 1, none⟩ v5).setCell ⟨rb, p * 4 + 2, none⟩ v6) := (hk3.setCell (p := ⟨rb, p * 4 + 1, none⟩) (fun _ => rfl) _).setCell (p := ⟨rb, p * 4 + 2, none⟩) (fun _ => rfl) _
  have hkl : Kept (fun k => k = rb) w3 ((w3.setCell ⟨rb, p * 4 + 1, none⟩ v5).setCell ⟨rb, p * 4 + 2, none⟩ v6) := ((Kept.refl (fun k => k = rb) w3).setCell (p := ⟨rb, p * 4 + 1, none⟩) (fun _ => rfl) _).setCell (p := ⟨rb, p * 4 + 2, none⟩) (fun _ => rfl) _
  have hsz : ((w3.setCell ⟨rb, p * 4 + 1, none⟩ v5).setCell ⟨rb, p * 4 + 2, none⟩ v6).heap.size = w3.heap.size := by simp
  have hw := h.wide r (List.mem_of_getElem? hp)
  refine ⟨h.put hpn (r' := tellRow r inst done held) (vd := v5) (vh := v6) hkf (fun k hk => .inl hk) (fun hx => ?_) (fun hx => ?_) (fun k hk => ?_) e0 e5 (by simp) (fun i hi => ?_) ?_ ?_ ?_ ?_ ?_ ?_ ?_ ?_, hkf⟩
  · rcases hx with hx | hx
    · exact h.gb hx
    · have := hx.1; have := h.lt.1; omega
  · rcases hx with hx | hx
    · exact h.gr hx
    · have := hx.1; omega
  · rcases hk with hk | hk
    · have := h.glt k hk; omega
    · exact hk.2
  · rw [Array.getElem?_setIfInBounds_ne (by omega), Array.getElem?_setIfInBounds_ne (by omega), Array.getElem?_setIfInBounds_ne (by omega)]
  · rw [Array.getElem?_setIfInBounds_ne (by omega), Array.getElem?_setIfInBounds_ne (by omega)]
    rw [Array.getElem?_setIfInBounds_self_of_lt (by rw [hcs]; omega)]
    rfl
  · rw [Array.getElem?_setIfInBounds_ne (by omega), Array.getElem?_setIfInBounds_self_of_lt (by rw [Array.size_setIfInBounds, hcs]; omega)]
  · rw [Array.getElem?_setIfInBounds_self_of_lt (by rw [Array.size_setIfInBounds, Array.size_setIfInBounds, hcs]; omega)]
  · rw [Array.getElem?_setIfInBounds_ne (by omega), Array.getElem?_setIfInBounds_ne (by omega), Array.getElem?_setIfInBounds_ne (by omega)]
    rw [cell_of_row w rb _ _ _ _ e0] at hc3
    exact hc3
  · simp only [inr_u64, tellRow] at hri hi ⊢
    omega
  · exact (hs5.new hk6).kept hkl (fun k hk _ => by have := hk.1; simp at this; omega) |>.mono fun k hk hlt => .inr ⟨by have := hk.1; simpa using this, hlt⟩
  · exact hs6.kept hkl (fun k hk _ => by have := hk.1; omega) |>.mono fun k hk hlt => .inr ⟨by have := hk.1; omega, hlt⟩
  · exact ⟨by rw [tellRow, vrise_len]; exact hw.1, by rw [tellRow, vrise_len]; exact hw.2⟩

set_option maxHeartbeats 1000000 in
theorem tell_in {b rb n : Nat} {rows : List Row} {G F : Nat → Prop} (w : World) (h : MatAt w b rb n rows G) (p : Nat) (r : Row) (hp : rows[p]? = some r) (inst : Int) (hi : InR .u64 inst) (vd vh : Value) (done held : List Int)
    (hd : Sl (kI .u64) w F vd done) (hh : Sl (kI .u64) w F vh held) (hF : ¬ F rb) (hld : done.length ≤ 17592186044415) (hlh : held.length ≤ 17592186044415) :
    Calls Try.prog 16 #[.pointer (some ⟨b, 0, none⟩), .int .i64 p, .int .u64 inst, vd, vh] w fun e w' => e = .returned (.tuple #[]) ∧
      MatAt w' b rb n (rows.set p (tellRow r inst done held)) (fun k => G k ∨ New w w' k) ∧ Kept (fun k => k = rb) w w' := by
  have hpn : p < n := by rw [← h.len]; exact (List.getElem?_eq_some_iff.1 hp).1
  have hof := of_in p w h.c0 hpn h.le
  obtain ⟨ud, uh, c0, c1, c2, c3, hri, hsd, hsh⟩ := h.at_ hp
  have f0 := h.fro (p * 4)
  have f1 := h.fro (p * 4 + 1)
  have f2 := h.fro (p * 4 + 2)
  have hrb := h.lt.2
  have hwide := h.wide r (List.mem_of_getElem? hp)
  have hle := h.le
  have HH : Hid (MatAt w b rb n rows G ∧ rows[p]? = some r ∧ InR .u64 inst ∧ InR .u64 r.inst ∧ ¬ F rb ∧ r.done.length = n ∧ r.held.length = n) := ⟨h, hp, hi, hri, hF, hwide.1, hwide.2⟩
  have hmv : ∀ (s : Value) (k : Nat), (G k ∨ F k) → k < w.heap.size → (w.setCell ⟨rb, p * 4, none⟩ s).drew.heap[k]? = w.heap[k]? := fun s k hk _ =>
    Below.heap_setCell w _ s k (fun e => by subst e; exact hk.elim h.gr hF)
  have HS : Hid (∀ s : Value, Sl (kI .u64) (w.setCell ⟨rb, p * 4, none⟩ s).drew (fun k => G k ∨ F k) ud r.done ∧ Sl (kI .u64) (w.setCell ⟨rb, p * 4, none⟩ s).drew (fun k => G k ∨ F k) uh r.held ∧
      Sl (kI .u64) (w.setCell ⟨rb, p * 4, none⟩ s).drew (fun k => G k ∨ F k) vd done ∧ Sl (kI .u64) (w.setCell ⟨rb, p * 4, none⟩ s).drew (fun k => G k ∨ F k) vh held) := fun s =>
    ⟨(hsd.mono fun k hk _ => .inl hk).move (hmv s), (hsh.mono fun k hk _ => .inl hk).move (hmv s), (hd.mono fun k hk _ => .inr hk).move (hmv s), (hh.mono fun k hk _ => .inr hk).move (hmv s)⟩
  have HE : Hid (∀ s : Value, (w.setCell ⟨rb, p * 4, none⟩ s).drew.cell? ⟨rb, p * 4 + 1, none⟩ = some ud ∧ (w.setCell ⟨rb, p * 4, none⟩ s).drew.cell? ⟨rb, p * 4 + 2, none⟩ = some uh ∧ ∀ j, (w.setCell ⟨rb, p * 4, none⟩ s).drew.frozen? ⟨rb, j, none⟩ = false) := fun s =>
    ⟨by rw [World.cell?_drew, World.cell?_setCell_other _ _ _ _ (by simp)]; exact c1, by rw [World.cell?_drew, World.cell?_setCell_other _ _ _ _ (by simp)]; exact c2, fun j => by rw [World.frozen?_drew, World.frozen?_setCell]; exact h.fro j⟩
  clear hmv hsd hsh hd hh hwide hri hF hi hp h
  go_enter Try.func16, Try.ntmps16
  go_wp2_with (go_at_call 45; ((with_reducible refine hof.mono ?_); rintro e w' ⟨rfl, rfl⟩))
  all_goals
    clear hof
    refine wp_region_plan No (.pur 0 (.pur 1 (.pur 2 (.pur 3 (.pur 4 (.pur 6 (.pur 8 (.pur 9 (.pur 10 (.pur 12 (.rd 5 (.rd 11 (.grow 7 (.grow 13 (.pur 14 (.pur 15 (.act 16 (.pur 17 (.pur 18 (.act 19 .fin)))))))))))))))))))) [16, 19] mixed (by kernel_rfl) ?_
    repeat ((first
      | refine pl_pur (by simp only [List.getD_cons_succ, List.getD_cons_zero]; rfl) _ (by rfl) (fun W => by go_simp; with_reducible rfl) ?_
      | refine pl_rd (by simp only [List.getD_cons_succ, List.getD_cons_zero]; rfl) _ (by rfl) (fun W hW => by have hc := kcell hW; clear hW; go_simp; with_reducible rfl) ?_); simp only [Act.put, List.setIfInBounds_toArray, List.set_cons_zero, List.set_cons_succ])
    refine pl_grow (by simp only [List.getD_cons_succ, List.getD_cons_zero]; rfl) ?_
    go_wp2_with (go_at_call 46; ((with_reducible refine (rise_any _ _ _ _ _ _ (HS.out _).1 (HS.out _).2.2.1 (by have := HH.out.2.2.2.2.2.1; omega) hld).mono ?_); rintro e w2 ⟨v5, rfl, hs5, hk5⟩))
    refine GPost.mk hk5 ?_
    have HK5 : Hid (Kept No _ w2 ∧ Sl (kI .u64) w2 _ v5 _) := ⟨hk5, hs5⟩
    clear hk5 hs5
    refine pl_grow (by simp only [List.getD_cons_succ, List.getD_cons_zero]; rfl) ?_
    go_wp2_with (go_at_call 46; ((with_reducible refine (rise_any _ _ _ _ _ _ ((HS.out _).2.1.new HK5.out.1) ((HS.out _).2.2.2.new HK5.out.1) (by have := HH.out.2.2.2.2.2.2; omega) hlh).mono ?_); rintro e w3 ⟨v6, rfl, hs6, hk6⟩))
    refine GPost.mk hk6 ?_
    have g1 := hk6.cell (HK5.out.1.cell (HE.out _).1 id) id
    have g2 := hk6.cell (HK5.out.1.cell (HE.out _).2.1 id) id
    have q1 : w3.frozen? ⟨rb, p * 4 + 1, none⟩ = false := (hk6.frozen_eq (Nat.lt_of_lt_of_le hrb (by simpa using HK5.out.1.size)) id).trans ((HK5.out.1.frozen_eq (by simpa using hrb) id).trans ((HE.out _).2.2 _))
    have q2 : w3.frozen? ⟨rb, p * 4 + 2, none⟩ = false := (hk6.frozen_eq (Nat.lt_of_lt_of_le hrb (by simpa using HK5.out.1.size)) id).trans ((HK5.out.1.frozen_eq (by simpa using hrb) id).trans ((HE.out _).2.2 _))
    have HK6 : Hid (Kept No w2 w3 ∧ Sl (kI .u64) w3 _ v6 _) := ⟨hk6, hs6⟩
    clear hk6 hs6
    obtain ⟨A5, n5, x5, e5⟩ : ∃ A n c, v5 = .slice A n c := by obtain ⟨A, c, h, _⟩ := HK5.out.2.slice; exact ⟨A, _, c, h⟩
    obtain ⟨A6, n6, x6, e6⟩ : ∃ A n c, v6 = .slice A n c := by obtain ⟨A, c, h, _⟩ := HK6.out.2.slice; exact ⟨A, _, c, h⟩
    subst e5 e6
    repeat ((refine pl_pur (by simp only [List.getD_cons_succ, List.getD_cons_zero]; rfl) _ (by rfl) (fun W => by go_simp; with_reducible rfl) ?_); simp only [Act.put, List.setIfInBounds_toArray, List.set_cons_zero, List.set_cons_succ])
    refine pl_act (by simp only [List.getD_cons_succ, List.getD_cons_zero]; rfl) ?_
    go_wp2
    refine APost.mk ?_
    repeat ((refine pl_pur (by simp only [List.getD_cons_succ, List.getD_cons_zero]; rfl) _ (by rfl) (fun W => by go_simp; with_reducible rfl) ?_); simp only [Act.put, List.setIfInBounds_toArray, List.set_cons_zero, List.set_cons_succ])
    refine pl_act (by simp only [List.getD_cons_succ, List.getD_cons_zero]; rfl) ?_
    go_wp2
    refine APost.mk (pl_fin ?_)
    go_wp2
    go_end0
    have hE := tell_end HH.out.1 HH.out.2.1 (by omega) HH.out.2.2.1 HK5.out.1 HK6.out.1 HK5.out.2 HK6.out.2
    exact ⟨rfl, hE.1, hE.2⟩
end Go.Proofs.Ytfnecdkfhackkaa
