/- The laws of matrix, first part: acts; great; an act done upon one of two matrices. -/
import Derived.Test.YtfnecdkfhackkaaAw18
import Derived.Test.YtfnecdkfhackkaaRef04
import Derived.Test.YtfnecdkfhackkaaOpen
set_option linter.unusedVariables false
set_option linter.unusedSimpArgs false
namespace Go.Proofs.Ytfnecdkfhackkaa
open Go.RowKit

structure Deed where
  gone : Bool
  p : Int
  inst : Int
  done : List Int
  held : List Int
def kDeed : Kd Deed where
  sz := 5
  K := fun w F r cs => ∃ vd vh, cs = [.bool r.gone, .int .i64 r.p, .int .u64 r.inst, vd, vh] ∧ InR .i64 r.p ∧ InR .u64 r.inst ∧ Sl (kI .u64) w F vd r.done ∧ Sl (kI .u64) w F vh r.held
  len := by rintro w F x cs ⟨vd, vh, rfl, _⟩; rfl
  one := by
    rintro w F x cs ⟨vd, vh, rfl, _, _, h1, h2⟩ u hu
    obtain ⟨A, c, rfl, _⟩ := h1.slice
    obtain ⟨A2, c2, rfl, _⟩ := h2.slice
    simp only [List.mem_cons, List.not_mem_nil, or_false] at hu
    rcases hu with rfl | rfl | rfl | rfl | rfl <;> rfl
  mono := by rintro w F F' x cs hf ⟨vd, vh, rfl, h0, h3, h1, h2⟩; exact ⟨vd, vh, rfl, h0, h3, h1.mono hf, h2.mono hf⟩
  move := by rintro w w1 F x cs hm ⟨vd, vh, rfl, h0, h3, h1, h2⟩; exact ⟨vd, vh, rfl, h0, h3, h1.move hm, h2.move hm⟩
theorem agg29 {a b c d e : Value} : Agg Try.prog 29 [a, b, c, d, e].length := Agg.mk' Try.underlying29 rfl (by kernel_rfl)

theorem great_op (g : Bool) (p i : Int) (A B : Option Addr) (n c m d : Nat) (W : World) :
    Calls Try.prog 14 #[.agg #[.bool g, .int .i64 p, .int .u64 i, .slice A n c, .slice B m d]] W fun e w' => e = .returned (.bool (decide (100 < n) || decide (100 < m))) ∧ Kept No W w' := by
  by_cases hn : 100 < n
  · have h1 : (100 : Int) < n := by omega
    go_enter Try.func14, Try.ntmps14
    go_wp2
    go_ret
    exact ⟨ret_bool2 (by simp [hn]), (Kept.refl _ _).alloc _⟩
  · have h1 : ¬ (100 : Int) < n := by omega
    by_cases hm : 100 < m
    · have h2 : (100 : Int) < m := by omega
      go_enter Try.func14, Try.ntmps14
      go_wp2
      go_ret
      exact ⟨ret_bool2 (by simp [hm]), (Kept.refl _ _).alloc _⟩
    · have h2 : ¬ (100 : Int) < m := by omega
      go_enter Try.func14, Try.ntmps14
      go_wp2
      go_ret
      exact ⟨ret_bool2 (by simp [hn, hm]), (Kept.refl _ _).alloc _⟩

theorem great_yes {g : Bool} {p i : Int} {A B : Option Addr} {n c m d : Nat} (W : World) (h : 100 < n ∨ 100 < m) :
    Calls Try.prog 14 #[.agg #[.bool g, .int .i64 p, .int .u64 i, .slice A n c, .slice B m d]] W fun e w' => e = .returned (.bool true) ∧ Kept No W w' :=
  (great_op g p i A B n c m d W).mono fun e w' h2 => ⟨by rw [h2.1]; exact ret_bool2 (by simpa using h), h2.2⟩
theorem great_no {g : Bool} {p i : Int} {A B : Option Addr} {n c m d : Nat} (W : World) (h : ¬ (100 < n ∨ 100 < m)) :
    Calls Try.prog 14 #[.agg #[.bool g, .int .i64 p, .int .u64 i, .slice A n c, .slice B m d]] W fun e w' => e = .returned (.bool false) ∧ Kept No W w' :=
  (great_op g p i A B n c m d W).mono fun e w' h2 => ⟨by rw [h2.1]; exact ret_bool2 (by simp only [not_or] at h; simp [h.1, h.2]), h2.2⟩

def deed (rows : List Row) (x : Deed) : List Row := if x.gone then gone1 rows x.p else tell rows x.p x.inst x.done x.held

theorem gone_one {b rb n c : Nat} {rows : List Row} {G : Nat → Prop} (w : World) (h : MatAt w b rb n rows G) (p : Int) (hc : w.cell? ⟨c, 0, none⟩ = some (.int .i64 p)) (hp : InR .i64 p) (hne : rb ≠ c) :
    Calls Try.prog 15 #[.pointer (some ⟨b, 0, none⟩), .slice (some ⟨c, 0, none⟩) 1 1] w fun e w' => e = .returned (.int .i64 (gone1n rows p)) ∧ MatAt w' b rb n (gone1 rows p) G ∧ Kept (fun k => k = rb) w w' := by
  refine (gone_any (F := fun k => k = c) w h _ [p] (sl_one hc hp rfl) hne (by simp)).mono ?_
  rintro e w' ⟨h1, h2, h3⟩
  have e1 : goneF rows [p] = (gone1 rows p, 0 + gone1n rows p) := rfl
  rw [e1] at h1 h2
  exact ⟨by rw [h1]; exact ret_int (by simp), h2, h3⟩

/-- Two matrices, apart. -/
structure Two (w0 w : World) (ba rba bb rbb n : Nat) (ra rb : List Row) (Ga Gb : Nat → Prop) : Prop where
  a : MatAt w ba rba n ra Ga
  b : MatAt w bb rbb n rb Gb
  ga : ¬ Ga rbb
  gb : ¬ Gb rba
  n1 : bb ≠ rba
  n2 : rbb ≠ rba
  n3 : ba ≠ rbb
  k : Kept No w0 w
  la : w0.heap.size ≤ rba
  lb : w0.heap.size ≤ rbb
theorem Two.swap {w0 w : World} {ba rba bb rbb n : Nat} {ra rb : List Row} {Ga Gb : Nat → Prop} (h : Two w0 w ba rba bb rbb n ra rb Ga Gb) : Two w0 w bb rbb ba rba n rb ra Gb Ga :=
  ⟨h.b, h.a, h.gb, h.ga, h.n3, h.n2.symm, h.n1, h.k, h.lb, h.la⟩
theorem Two.new {w0 w w1 : World} {ba rba bb rbb n : Nat} {ra rb : List Row} {Ga Gb : Nat → Prop} (h : Two w0 w ba rba bb rbb n ra rb Ga Gb) (hk : Kept No w w1) : Two w0 w1 ba rba bb rbb n ra rb Ga Gb :=
  ⟨h.a.new hk, h.b.new hk, h.ga, h.gb, h.n1, h.n2, h.n3, h.k.trans hk, h.la, h.lb⟩
theorem two_gone {w0 : World} {ba rba bb rbb n c : Nat} {ra rb : List Row} {Ga Gb : Nat → Prop} (w : World) (h : Two w0 w ba rba bb rbb n ra rb Ga Gb) (p : Int) (hc : w.cell? ⟨c, 0, none⟩ = some (.int .i64 p)) (hp : InR .i64 p) (hne : rba ≠ c) :
    Calls Try.prog 15 #[.pointer (some ⟨ba, 0, none⟩), .slice (some ⟨c, 0, none⟩) 1 1] w fun e w' => e = .returned (.int .i64 (gone1n ra p)) ∧ Two w0 w' ba rba bb rbb n (gone1 ra p) rb Ga Gb ∧ Kept (fun k => k = rba) w w' := by
  refine (gone_one w h.a p hc hp hne).mono ?_
  rintro e w' ⟨h1, h2, h3⟩
  exact ⟨h1, ⟨h2, h.b.kept h3 h.n1 h.n2 (fun k hk e => h.gb (e ▸ hk)), h.ga, h.gb, h.n1, h.n2, h.n3, h.k.trans2 h3 (fun i hi e => by have := h.la; omega), h.la, h.lb⟩, h3⟩
theorem two_tell {w0 : World} {ba rba bb rbb n : Nat} {ra rb : List Row} {Ga Gb : Nat → Prop} (w : World) (h : Two w0 w ba rba bb rbb n ra rb Ga Gb) (p inst : Int) (vd vh : Value) (done held : List Int) (hi : InR .u64 inst)
    (hd : Sl (kI .u64) w0 (Old w0) vd done) (hh : Sl (kI .u64) w0 (Old w0) vh held) (hld : done.length ≤ 100) (hlh : held.length ≤ 100) :
    Calls Try.prog 16 #[.pointer (some ⟨ba, 0, none⟩), .int .i64 p, .int .u64 inst, vd, vh] w fun e w' => e = .returned (.tuple #[]) ∧ (∃ G, Two w0 w' ba rba bb rbb n (tell ra p inst done held) rb G Gb) ∧ Kept (fun k => k = rba) w w' := by
  refine (tell_any (F := Old w0) w h.a p inst hi vd vh done held (hd.new h.k) (hh.new h.k) (fun e => by have := h.la; simp only [Old] at e; omega) (by omega) (by omega)).mono ?_
  rintro e w' ⟨h1, h2, h3⟩
  exact ⟨h1, ⟨_, h2, h.b.kept h3 h.n1 h.n2 (fun k hk e => h.gb (e ▸ hk)), fun e => e.elim h.ga fun e => by have := e.1; have := h.b.lt.2; omega, h.gb, h.n1, h.n2, h.n3, h.k.trans2 h3 (fun i hi e => by have := h.la; omega), h.la, h.lb⟩, h3⟩

section
variable {P : Program} {F : Nat → Prop}
theorem pl_load_whole {l : List Oper} {K : Act → World → Prop} {a : Act} {w : World} {i : Nat} {p : Plan} {o : Oper} (ho : l.getD i default = o) (hg : Region.wanted o (yielded l.toArray a.tmps) = true) (x : Operand) (ty : TypeId) (hop : o.op = .load ty x)
    (b off : Nat) (hx : a.eval x = .pointer (some ⟨b, off, none⟩)) (cs : List Value) (hA : Agg P ty cs.length) (hc : ∀ i u, cs[i]? = some u → w.cell? ⟨b, off + i, none⟩ = some u) (hF : ¬ F b)
    (h : wpPl P F l K p (a.put o.dst (.agg cs.toArray)) w) : wpPl P F l K (.rd i p) a w := by
  refine pl_rd ho _ hg (fun W hW => ?_) h
  simp only [execOp, hop, Instr.loadAt, hx]
  simp [Instr.sureAddr, run_load_whole hA (fun i u hu => hW.cell (hc i u hu) hF)]
end

/-! ### The plain law: the order plays no part -/
theorem vfold2 (a b : List Int) : vfold max [a, b] = (List.range (max a.length b.length)).map fun i => max (vat a i) (vat b i) := by
  simp [vfold, vlen]
theorem vrise_get (a b : List Int) (i : Nat) : (vrise a b)[i]? = if i < a.length then some (max (vat a i) (vat b i)) else none := by
  rw [vrise, vfold2, List.getElem?_take]
  split
  · rename_i h
    rw [List.getElem?_map, List.getElem?_range (by omega)]; rfl
  · rfl
theorem vat_vrise (a b : List Int) (i : Nat) (h : i < a.length) : vat (vrise a b) i = max (vat a i) (vat b i) := by
  rw [vat, List.getD_eq_getElem?_getD, vrise_get, if_pos h]; rfl
theorem vrise_comm (a b c : List Int) : vrise (vrise a b) c = vrise (vrise a c) b := by
  apply List.ext_getElem?
  intro i
  rw [vrise_get, vrise_get, vrise_len, vrise_len]
  split
  · rename_i h
    rw [vat_vrise _ _ _ h, vat_vrise _ _ _ h]
    congr 1; omega
  · rfl
def upd (rows : List Row) (p : Int) (f : Row → Row) : List Row := if p < 0 then rows else match rows[p.toNat]? with
  | some r => rows.set p.toNat (f r)
  | none => rows
theorem gone1_upd (rows : List Row) (p : Int) : gone1 rows p = upd rows p fun r => { r with gone := true } := by
  unfold gone1 upd rowAt
  by_cases h : p < 0
  · simp [h]
  · simp only [h, if_false]
    cases rows[p.toNat]? <;> rfl
def deedRow (x : Deed) (r : Row) : Row := if x.gone then { r with gone := true } else tellRow r x.inst x.done x.held
theorem deed_upd (rows : List Row) (x : Deed) : deed rows x = upd rows x.p (deedRow x) := by
  unfold deed deedRow
  cases x.gone with
  | true => simp [gone1_upd]
  | false => rfl
theorem deedRow_comm (x y : Deed) (r : Row) : deedRow y (deedRow x r) = deedRow x (deedRow y r) := by
  unfold deedRow
  cases x.gone <;> cases y.gone <;> simp [tellRow]
  exact ⟨by omega, vrise_comm _ _ _, vrise_comm _ _ _⟩
theorem upd_get (rows : List Row) (p : Int) (f : Row → Row) (i : Nat) : (upd rows p f)[i]? = if (i : Int) = p then rows[i]?.map f else rows[i]? := by
  unfold upd
  by_cases h : p < 0
  · rw [if_pos h, if_neg (by omega)]
  · rw [if_neg h]
    obtain ⟨q, rfl⟩ : ∃ q : Nat, p = q := ⟨p.toNat, by omega⟩
    simp only [Int.toNat_natCast]
    cases hq : rows[q]? with
    | none =>
      simp only
      split
      · have : i = q := by omega
        subst this; rw [hq]; rfl
      · rfl
    | some r =>
      simp only
      rw [List.getElem?_set]
      by_cases e : q = i
      · subst e
        rw [if_pos rfl, if_pos rfl, hq, if_pos (List.getElem?_eq_some_iff.1 hq).1]; rfl
      · rw [if_neg e, if_neg (by omega)]
theorem deed_comm (rows : List Row) (x y : Deed) : deed (deed rows x) y = deed (deed rows y) x := by
  apply List.ext_getElem?
  intro i
  simp only [deed_upd, upd_get]
  by_cases h1 : (i : Int) = x.p <;> by_cases h2 : (i : Int) = y.p
  · rw [if_pos h1, if_pos h2, if_pos h1, if_pos h2, Option.map_map, Option.map_map]
    congr 1; funext r; exact deedRow_comm x y r
  · rw [if_pos h1, if_neg h2, if_pos h1, if_neg h2]
  · rw [if_neg h1, if_pos h2, if_neg h1]
  · rw [if_neg h1, if_neg h2, if_neg h1]
theorem deeds_push (l : List Deed) : ∀ (rows : List Row) (x : Deed), l.foldl deed (deed rows x) = deed (l.foldl deed rows) x := by
  induction l with
  | nil => intro _ _; rfl
  | cons y l ih => intro rows x; rw [List.foldl_cons, List.foldl_cons, deed_comm, ih]
theorem deeds_reverse (l : List Deed) (rows : List Row) : l.reverse.foldl deed rows = l.foldl deed rows := by
  induction l generalizing rows with
  | nil => rfl
  | cons x l ih => rw [List.reverse_cons, List.foldl_append, ih]; exact (deeds_push l rows x).symm
end Go.Proofs.Ytfnecdkfhackkaa
