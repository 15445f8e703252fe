/- The laws of pull: acts; a matrix beside a puller. -/
import Derived.Test.YtfnecdkfhackkaaPg12
set_option linter.unusedVariables false
set_option linter.unusedSimpArgs false
namespace Go.Proofs.Ytfnecdkfhackkaa
open Go.RowKit
structure Act where
  kind : Int
  p : Int
  now : Int
  held : List Int
  skip : List Int
def kAct : Kd Act where
  sz := 5
  K := fun w F r cs => ∃ vh vs, cs = [.int .i64 r.kind, .int .i64 r.p, .int .i64 r.now, vh, vs] ∧ InR .i64 r.p ∧ Sl (kI .u64) w F vh r.held ∧ Sl (kI .i64) w F vs r.skip
  len := by rintro w F x cs ⟨vd, vh, rfl, _⟩; rfl
  one := by
    rintro w F x cs ⟨vd, vh, rfl, _, h1, h2⟩ u hu
    obtain ⟨A, c, rfl, _⟩ := h1.slice
    obtain ⟨A2, c2, rfl, _⟩ := h2.slice
    simp only [List.mem_cons, List.not_mem_nil, or_false] at hu
    rcases hu with rfl | rfl | rfl | rfl | rfl <;> rfl
  mono := by rintro w F F' x cs hf ⟨vd, vh, rfl, h0, h1, h2⟩; exact ⟨vd, vh, rfl, h0, h1.mono hf, h2.mono hf⟩
  move := by rintro w w1 F x cs hm ⟨vd, vh, rfl, h0, h1, h2⟩; exact ⟨vd, vh, rfl, h0, h1.move hm, h2.move hm⟩
theorem agg65 {a b c d e : Value} : Agg Try.prog 65 [a, b, c, d, e].length := Agg.mk' Try.underlying65 rfl (by kernel_rfl)
theorem acts_at {w : World} {v : Value} {l : List Act} (hl : Sl kAct w (Old w) v l) : ∃ A c, v = .slice A l.length c ∧ l.length ≤ 9223372036854775807 ∧
    ∀ j x, l[j]? = some x → ∃ bl off vh vs, A = some ⟨bl, off, none⟩ ∧ bl < w.heap.size ∧ (∀ i u, [.int .i64 x.kind, .int .i64 x.p, .int .i64 x.now, vh, vs][i]? = some u → w.cell? ⟨bl, off + j * 5 + i, none⟩ = some u) ∧
      InR .i64 x.p ∧ Sl (kI .u64) w (Old w) vh x.held ∧ Sl (kI .i64) w (Old w) vs x.skip := by
  rcases Sl.cases (by decide) hl with ⟨rfl, A, c, rfl⟩ | ⟨h0, h1, b, off, c, rfl, h2, h3, hF, hb, hc⟩
  · exact ⟨A, c, rfl, by simp, fun j x h => by simp at h⟩
  · refine ⟨_, c, rfl, by simp only [maxLen] at h1; omega, fun j x hx => ?_⟩
    obtain ⟨cs, ⟨vd, vh, rfl, h4, h5, h6⟩, h8⟩ := hc j x hx
    exact ⟨b, off, vd, vh, rfl, hb, h8, h4, h5, h6⟩

/-- A matrix and a puller, apart. -/
structure Duo (w0 w : World) (b rb px n : Nat) (R : List Row) (G O : Nat → Prop) (x : PS) : Prop where
  m : MatAt w b rb n R G
  p : PullAt w px O x
  dis : ∀ k, O k → k ≠ b ∧ k ≠ rb ∧ ¬ G k
  ol : ∀ k, O k → w0.heap.size ≤ k ∧ k < w.heap.size
  lb : w0.heap.size ≤ rb
  k : Kept No w0 w
  ok : x.ok
section
variable {w0 w w1 : World} {b rb px n : Nat} {R : List Row} {G O : Nat → Prop} {x : PS}
theorem Duo.new (h : Duo w0 w b rb px n R G O x) (hk : Kept No w w1) : Duo w0 w1 b rb px n R G O x :=
  ⟨h.m.new hk, h.p.kept hk (fun _ _ e => e), h.dis, fun k ho => ⟨(h.ol k ho).1, Nat.lt_of_lt_of_le (h.ol k ho).2 hk.size⟩, h.lb, h.k.trans hk, h.ok⟩
theorem duo_gone {c : Nat} (w : World) (h : Duo w0 w b rb px n R G O x) (p : Int) (hc : w.cell? ⟨c, 0, none⟩ = some (.int .i64 p)) (hp : InR .i64 p) (hne : rb ≠ c) :
    Calls Try.prog 15 #[.pointer (some ⟨b, 0, none⟩), .slice (some ⟨c, 0, none⟩) 1 1] w fun e w' => (∃ i, e = .returned (.int .i64 i)) ∧ Duo w0 w' b rb px n (gone1 R p) G O x := by
  refine (gone_one w h.m p hc hp hne).mono ?_
  rintro e w' ⟨h1, h2, h3⟩
  exact ⟨⟨_, h1⟩, h2, h.p.kept h3 (fun k ho e => (h.dis k ho).2.1 e), h.dis, fun k ho => ⟨(h.ol k ho).1, Nat.lt_of_lt_of_le (h.ol k ho).2 h3.size⟩, h.lb, h.k.trans2 h3 (fun i hi e => by have := h.lb; have e : i = rb := e; omega), h.ok⟩
theorem duo_tell (w : World) (h : Duo w0 w b rb px n R G O x) (p inst : Int) (vd vh : Value) (done held : List Int) (hi : InR .u64 inst)
    (hd : Sl (kI .u64) w0 (Old w0) vd done) (hh : Sl (kI .u64) w0 (Old w0) vh held) (hld : done.length ≤ 100) (hlh : held.length ≤ 100) :
    Calls Try.prog 16 #[.pointer (some ⟨b, 0, none⟩), .int .i64 p, .int .u64 inst, vd, vh] w fun e w' => e = .returned (.tuple #[]) ∧ (∃ G, Duo w0 w' b rb px n (tell R p inst done held) G O x) ∧ Kept (fun k => k = rb) w w' := by
  refine (tell_any (F := Old w0) w h.m p inst hi vd vh done held (hd.new h.k) (hh.new h.k) (fun e => by have := h.lb; simp only [Old] at e; omega) (by omega) (by omega)).mono ?_
  rintro e w' ⟨h1, h2, h3⟩
  exact ⟨h1, ⟨_, h2, h.p.kept h3 (fun k ho e => (h.dis k ho).2.1 e), fun k ho => ⟨(h.dis k ho).1, (h.dis k ho).2.1, fun e => e.elim (h.dis k ho).2.2 (fun e => by have := (h.ol k ho).2; have := e.1; omega)⟩, fun k ho => ⟨(h.ol k ho).1, Nat.lt_of_lt_of_le (h.ol k ho).2 h3.size⟩, h.lb, h.k.trans2 h3 (fun i hi e => by have := h.lb; have e : i = rb := e; omega), h.ok⟩, h3⟩
theorem nextI_eq (x : PS) (e : PE) (now : Int) : (nextI x e now).1.n = x.n ∧ (nextI x e now).1.me = x.me ∧ (nextI x e now).1.again = x.again := by
  have h := settleI_eq x e
  unfold nextI
  split
  · exact ⟨h.1, h.2.1, h.2.2.1⟩
  · split
    · exact ⟨h.1, h.2.1, h.2.2.1⟩
    · exact ⟨h.1, h.2.1, h.2.2.1⟩
theorem duo_next (w : World) (h : Duo w0 w b rb px n R G O x) (now : Int) (vh vs : Value) (held skip : List Int) (hh : Sl (kI .u64) w0 (Old w0) vh held) (hs : Sl (kI .i64) w0 (Old w0) vs skip)
    {y : PS} {id : Int × Int} {p : Int} {ok : Bool} (hn : nextI x ⟨held, n, R, skip⟩ now = (y, id, p, ok)) :
    Calls Try.prog 39 #[.pointer (some ⟨px, 0, none⟩), .int .i64 now, vh, .pointer (some ⟨b, 0, none⟩), vs] w fun e w' => e = .returned (.tuple #[.agg #[.int .u8 id.1, .int .u64 id.2], .int .i64 p, .bool ok]) ∧ (∃ O', Duo w0 w' b rb px n R G O' y) ∧ Kept O w w' := by
  refine (next_any (w := w) (e := ⟨held, n, R, skip⟩) (vh := vh) (vs := vs) (F := Old w0) (O := O) x h.ok px ⟨h.m, hh.new h.k, hs.new h.k, fun k hk => Nat.lt_of_lt_of_le hk h.k.size⟩ h.p
    (fun k ho => ⟨(h.dis k ho).1, (h.dis k ho).2.1, (h.dis k ho).2.2, fun e => by have := (h.ol k ho).1; simp only [Old] at e; omega⟩) (fun k ho => (h.ol k ho).2) now).mono ?_
  have hok := nextI_ok h.ok ⟨held, n, R, skip⟩ now
  rw [hn] at hok ⊢
  rintro e w' ⟨h1, h2, h3⟩
  have hbl := h.m.lt
  refine ⟨h1, ⟨_, h.m.kept h3 (fun e => (h.dis _ e).1 rfl) (fun e => (h.dis _ e).2.1 rfl) (fun k hg e => (h.dis _ e).2.2 hg), h2, fun k ho => ?_, fun k ho => ?_, h.lb, h.k.trans2 h3 (fun i hi e => by have := (h.ol _ e).1; omega), hok⟩, h3⟩
  · rcases ho with ho | ho
    · exact h.dis k ho
    · have := ho.1
      exact ⟨by omega, by omega, fun e => by have := h.m.glt _ e; omega⟩
  · rcases ho with ho | ho
    · exact ⟨(h.ol k ho).1, Nat.lt_of_lt_of_le (h.ol k ho).2 h3.size⟩
    · have := h.k.size; have := ho.1; have := ho.2; exact ⟨by omega, by omega⟩
end
theorem duo_start {w w1 w2 : World} {b rb px N : Nat} {R : List Row} {G : Nat → Prop} {x : PS} (h1 : MatAt w1 b rb N R G) (k1 : Kept No w w1) (l1 : w.heap.size ≤ rb) (hp : PxIs w2 px x (.pointer none)) (hw : x.want = none) (k2 : Kept No w1 w2) (hpx : px = w1.heap.size) (ok : x.ok) :
    Duo w w2 b rb px N R G (fun k => k = px) x := by
  have hl := h1.lt
  have hs := k1.size
  have hpl := lt_of_heap hp
  refine ⟨h1.new k2, ⟨_, hp, rfl, by rw [hw]⟩, fun k hk => ?_, fun k hk => ?_, l1, k1.trans k2, ok⟩
  · have hk : k = px := hk
    exact ⟨by omega, by omega, fun e => by have := h1.glt _ e; omega⟩
  · have hk : k = px := hk
    exact ⟨by omega, by omega⟩
end Go.Proofs.Ytfnecdkfhackkaa
