/- MatrixStable: the walk. -/
import Derived.Test.YtfnecdkfhackkaaMRises
set_option linter.unusedVariables false
set_option linter.unusedSimpArgs false
namespace Go.Proofs.Ytfnecdkfhackkaa
open Go.RowKit

def goneAt (R : List Row) (i : Nat) : Bool := match R[i]? with
  | some r => r.gone
  | none => false
theorem info_bool : (Try.prog.info? 4).map (fun i => (i.zero, i.size, i.bytes)) = some (some (.bool false), 1, 1) := by kernel_rfl
theorem kB_zero : ∀ W, kB.K W No false (Value.bool false).cells.toList := fun W => ⟨rfl, trivial⟩
theorem goneAt_tell (R : List Row) (p i : Int) (d h : List Int) (j : Nat) : goneAt (tell R p i d h) j = goneAt R j := by
  have e : tell R p i d h = upd R p fun r => tellRow r i d h := rfl
  unfold goneAt
  rw [e, upd_get]
  by_cases hj : (j : Int) = p
  · rw [if_pos hj]; cases R[j]? <;> rfl
  · rw [if_neg hj]
theorem goneAt_gone (R : List Row) (p : Int) (j : Nat) : goneAt (gone1 R p) j = if (j : Int) = p ∧ j < R.length then true else goneAt R j := by
  unfold goneAt
  rw [gone1_upd, upd_get]
  by_cases h : (j : Int) = p
  · rw [if_pos h]
    cases hr : R[j]? with
    | none => rw [if_neg (fun hh => by have := List.getElem?_eq_none_iff.1 hr; omega)]; rfl
    | some r => rw [if_pos ⟨h, (List.getElem?_eq_some_iff.1 hr).1⟩]; rfl
  · rw [if_neg h, if_neg (fun hh => h hh.1)]
theorem gone1n_zero {R : List Row} {p : Int} (h : gone1n R p = 0) (j : Nat) : goneAt (gone1 R p) j = goneAt R j := by
  rw [goneAt_gone]
  split
  · rename_i hh
    unfold gone1n rowAt at h
    rw [if_neg (by omega)] at h
    have e : p.toNat = j := by omega
    rw [e] at h
    unfold goneAt
    cases hr : R[j]? with
    | none => have := List.getElem?_eq_none_iff.1 hr; omega
    | some r =>
      rw [hr] at h
      simp only at h ⊢
      cases hg : r.gone with
      | true => rfl
      | false => simp [hg] at h
  · rfl
theorem gone1n_one {R : List Row} {p : Int} (h : gone1n R p = 1) : 0 ≤ p ∧ p < R.length := by
  unfold gone1n rowAt at h
  by_cases hp : p < 0
  · simp [hp] at h
  · rw [if_neg hp] at h
    cases hr : R[p.toNat]? with
    | none => simp [hr] at h
    | some r => have := (List.getElem?_eq_some_iff.1 hr).1; omega

/-- A matrix, and who is gone in a row of its own; since w0, and wb. -/
structure Gn (w0 wb w : World) (b rb gb n : Nat) (R RC : List Row) (G : Nat → Prop) : Prop where
  o : One w0 w b rb n R G
  g : ¬ G gb
  lt : gb < w.heap.size
  n1 : b ≠ gb
  n2 : rb ≠ gb
  l : w0.heap.size ≤ gb
  c : ∀ i, i < 20 → w.cell? ⟨gb, i, none⟩ = some (.bool (goneAt RC i))
  f : ∀ i, w.frozen? ⟨gb, i, none⟩ = false
  k : Kept (fun k => k = rb ∨ k = gb) wb w
theorem Gn.new {w0 wb w w1 : World} {b rb gb n : Nat} {R RC : List Row} {G : Nat → Prop} (h : Gn w0 wb w b rb gb n R RC G) (hk : Kept No w w1) : Gn w0 wb w1 b rb gb n R RC G :=
  ⟨h.o.new hk, h.g, Nat.lt_of_lt_of_le h.lt hk.size, h.n1, h.n2, h.l, fun i hi => hk.cell (h.c i hi) id, fun i => (hk.frozen_eq h.lt id).trans (h.f i), h.k.trans hk.no⟩
theorem Gn.step {w0 wb w w1 : World} {b rb gb n : Nat} {R RC R' : List Row} {G G' : Nat → Prop} (h : Gn w0 wb w b rb gb n R RC G) (ho : One w0 w1 b rb n R' G') (hk : Kept (fun k => k = rb) w w1) (hg : ¬ G' gb) : Gn w0 wb w1 b rb gb n R' RC G' :=
  ⟨ho, hg, Nat.lt_of_lt_of_le h.lt hk.size, h.n1, h.n2, h.l, fun i hi => hk.cell (h.c i hi) (fun e => h.n2 (Eq.symm e)), fun i => (hk.frozen_eq h.lt (fun e => h.n2 (Eq.symm e))).trans (h.f i), h.k.trans (hk.mono fun _ _ e => .inl e)⟩
theorem Gn.swap {w0 wb w : World} {b rb gb n : Nat} {R RC RC' : List Row} {G : Nat → Prop} (h : Gn w0 wb w b rb gb n R RC G) (hc : ∀ i, goneAt RC' i = goneAt RC i) : Gn w0 wb w b rb gb n R RC' G :=
  ⟨h.o, h.g, h.lt, h.n1, h.n2, h.l, fun i hi => by rw [hc]; exact h.c i hi, h.f, h.k⟩
theorem Gn.put {w0 wb w : World} {b rb gb n : Nat} {R RC RC' : List Row} {G : Nat → Prop} (h : Gn w0 wb w b rb gb n R RC G) {p : Nat} (hp : p < 20) (hc : ∀ i, goneAt RC' i = if i = p then true else goneAt RC i) : Gn w0 wb (w.setCell ⟨gb, p, none⟩ (.bool true)) b rb gb n R RC' G := by
  have hk : Kept (fun k => k = gb) w (w.setCell ⟨gb, p, none⟩ (.bool true)) := (Kept.refl (fun k => k = gb) w).setCell (p := ⟨gb, p, none⟩) (fun _ => rfl) _
  refine ⟨⟨h.o.m.kept hk h.n1 h.n2 (fun k hk e => h.g (e ▸ hk)), h.o.k.trans2 hk (fun i hi e => by have := h.l; omega), h.o.l⟩, h.g, by simpa using h.lt, h.n1, h.n2, h.l, fun i hi => ?_, fun i => by rw [World.frozen?_setCell]; exact h.f i, h.k.trans (hk.mono fun _ _ e => .inr e)⟩
  rw [hc]
  by_cases e : i = p
  · subst e
    rw [if_pos rfl]
    exact World.cell?_setCell_same _ _ _ (h.c i hi)
  · rw [if_neg e, World.cell?_setCell_other _ _ _ _ (by intro h; cases h; exact e rfl)]
    exact h.c i hi
theorem gn_gone {w0 wb : World} {b rb gb n c : Nat} {R RC : List Row} {G : Nat → Prop} (w : World) (h : Gn w0 wb w b rb gb n R RC G) (p : Int) (hc : w.cell? ⟨c, 0, none⟩ = some (.int .i64 p)) (hp : InR .i64 p) (hne : rb ≠ c) :
    Calls Try.prog 15 #[.pointer (some ⟨b, 0, none⟩), .slice (some ⟨c, 0, none⟩) 1 1] w fun e w' => e = .returned (.int .i64 (gone1n R p)) ∧ Gn w0 wb w' b rb gb n (gone1 R p) RC G ∧ Kept (fun k => k = rb) w w' := by
  refine (one_gone w h.o p hc hp hne).mono ?_
  rintro e w' ⟨h1, h2, h3⟩
  exact ⟨h1, h.step h2 h3 h.g, h3⟩
theorem gn_tell {w0 wb : World} {b rb gb n : Nat} {R RC : List Row} {G : Nat → Prop} (w : World) (h : Gn w0 wb w b rb gb n R RC G) (p inst : Int) (vd vh : Value) (done held : List Int) (hi : InR .u64 inst)
    (hd : Sl (kI .u64) w0 (Old w0) vd done) (hh : Sl (kI .u64) w0 (Old w0) vh held) (hld : done.length ≤ 100) (hlh : held.length ≤ 100) :
    Calls Try.prog 16 #[.pointer (some ⟨b, 0, none⟩), .int .i64 p, .int .u64 inst, vd, vh] w fun e w' => e = .returned (.tuple #[]) ∧ (∃ G, Gn w0 wb w' b rb gb n (tell R p inst done held) RC G) ∧ Kept (fun k => k = rb) w w' := by
  refine (tell_any (F := Old w0) w h.o.m p inst hi vd vh done held (hd.new h.o.k) (hh.new h.o.k) (fun e => by have := h.o.l; simp only [Old] at e; omega) (by omega) (by omega)).mono ?_
  rintro e w' ⟨h1, h2, h3⟩
  exact ⟨h1, ⟨_, h.step ⟨h2, h.o.k.trans2 h3 (fun i hi e => by have := h.o.l; omega), h.o.l⟩ h3 (fun e => e.elim h.g fun e => by have := e.1; have := h.lt; omega)⟩, h3⟩
theorem holders_law {n : Nat} {R : List Row} {f : Nat} {s : Int} (hl : R.length = n) : (∀ (i : Nat) x, (holdersM n R f s)[i]? = some x → ∃ j : Nat, x = j ∧ j < n ∧ goneAt R j = false ∧ s ≤ vat (heldOf R j) f) ∧ ∀ (i : Nat) x y, (holdersM n R f s)[i]? = some x → (holdersM n R f s)[i + 1]? = some y → x < y := by
  unfold holdersM
  by_cases hm : mayI f s n = true
  · rw [if_pos hm]
    have hp : ((List.range n).filter (holdsP R f s)).Pairwise (· < ·) := List.pairwise_lt_range.filter _
    constructor
    · intro i x hx
      rw [holdK, List.getElem?_map] at hx
      obtain ⟨j, hj, rfl⟩ := Option.map_eq_some_iff.1 hx
      have hm := List.mem_of_getElem? hj
      simp only [Int.toNat_natCast, List.mem_filter, List.mem_range] at hm
      refine ⟨j, rfl, hm.1, ?_⟩
      obtain ⟨r, hr⟩ : ∃ r, R[j]? = some r := ⟨_, List.getElem?_eq_getElem (by rw [hl]; exact hm.1)⟩
      have h2 := hm.2
      unfold holdsP at h2
      rw [hr] at h2
      simp only [Bool.and_eq_true, Bool.not_eq_true', decide_eq_true_eq] at h2
      have hra : rowAt R (j : Int) = some r := by unfold rowAt; rw [if_neg (by omega)]; simpa using hr
      exact ⟨by unfold goneAt; rw [hr]; exact h2.1, by unfold heldOf; rw [hra]; exact h2.2⟩
    · intro i x y hx hy
      rw [holdK, List.getElem?_map] at hx hy
      obtain ⟨j, hj, rfl⟩ := Option.map_eq_some_iff.1 hx
      obtain ⟨j', hj', rfl⟩ := Option.map_eq_some_iff.1 hy
      simp only [Int.toNat_natCast] at hj hj'
      obtain ⟨h1, e1⟩ := List.getElem?_eq_some_iff.1 hj
      obtain ⟨h2, e2⟩ := List.getElem?_eq_some_iff.1 hj'
      have := List.pairwise_iff_getElem.1 hp i (i + 1) h1 h2 (Nat.lt_succ_self _)
      rw [e1, e2] at this
      exact Int.ofNat_lt.2 this
  · rw [if_neg hm]
    exact ⟨fun i x h => by simp at h, fun i x y h => by simp at h⟩
theorem put_law {R : List Row} {N p : Nat} (h : R.length = N) (hp : (p : Int) < N) (i : Nat) : goneAt (gone1 R p) i = if i = p then true else goneAt R i := by
  rw [goneAt_gone]
  by_cases hi : i = p
  · subst hi; rw [if_pos ⟨rfl, by omega⟩, if_pos rfl]
  · rw [if_neg (by omega), if_neg hi]
set_option maxHeartbeats 4000000 in
set_option maxRecDepth 20000 in
theorem matStable_any (n : Int) (v : Value) (l : List Deed) (f : Nat) (s : Int) (hf : (f : Int) ≤ 255) (w : World) (hl : Sl kDeed w (Old w) v l) : Calls Try.prog 5 #[.int .i64 n, v, .agg #[.int .u8 f, .int .u64 s]] w fun e w' => e = .returned (.bool true) ∧ Kept No w w' := by
  obtain ⟨A, c, rfl, hlm, hat⟩ := deeds_at hl
  have HA := fun W => awake18_any W
  have hka : Kept No w (w.alloc (.cells #[.int .u8 f, .int .u64 s] 40)) := (Kept.refl _ _).alloc _
  have HKA : Hid (Kept No w (w.alloc (.cells #[.int .u8 f, .int .u64 s] 40))) := hka
  by_cases hbig : 100 < l.length
  · have h1 : (100 : Int) < (l.length : Int) := by omega
    clear hl hat hka
    go_enter Try.func5, Try.ntmps5
    go_wp2_with (go_at_call 12; ((with_reducible refine (HA _).mono ?_); rintro e w' ⟨rfl, hk⟩))
    go_ret
    exact ⟨rfl, HKA.out.trans hk⟩
  · have h1 : ¬ (100 : Int) < (l.length : Int) := by omega
    by_cases hn : 20 < n
    · clear hl hat hka
      go_enter Try.func5, Try.ntmps5
      go_wp2_with (go_at_call 12; ((with_reducible refine (HA _).mono ?_); rintro e w' ⟨rfl, hk⟩))
      go_ret
      exact ⟨rfl, HKA.out.trans hk⟩
    · obtain ⟨L, hL⟩ : ∃ L, L = l.length := ⟨_, rfl⟩
      rw [← hL] at hlm h1 hbig ⊢
      have HL : Hid (L = l.length) := hL
      have HAT : Hid (∀ j x, l[j]? = some x → ∃ bl off vd vh, A = some ⟨bl, off, none⟩ ∧ bl < w.heap.size ∧ (∀ i u, [.bool x.gone, .int .i64 x.p, .int .u64 x.inst, vd, vh][i]? = some u → w.cell? ⟨bl, off + j * 5 + i, none⟩ = some u) ∧
        InR .i64 x.p ∧ InR .u64 x.inst ∧ Sl (kI .u64) w (Old w) vd x.done ∧ Sl (kI .u64) w (Old w) vh x.held) := hat
      clear hL hat hl hka
      obtain ⟨N, hN⟩ : ∃ N, N = (max 1 (min n 64)).toNat := ⟨_, rfl⟩
      obtain ⟨R0, hR0⟩ : ∃ R, R = List.replicate N (zrow N) := ⟨_, rfl⟩
      have hnew := fun W => new_any n W
      rw [← hN, ← hR0] at hnew
      have hmx : max 1 n = (N : Int) := by omega
      have hN1 : 1 ≤ N ∧ N ≤ 20 := by omega
      have HR0 : Hid (leftN R0 = N ∧ R0.length = N ∧ ∀ i, goneAt R0 i = false) := by
        show _ ∧ _
        rw [hR0]
        refine ⟨leftN_new N, by simp, fun i => ?_⟩
        unfold goneAt
        rw [List.getElem?_replicate]
        by_cases hi : i < N
        · rw [if_pos hi]; rfl
        · rw [if_neg hi]
      clear hN hR0
      have HMX : Hid (max 1 n = (N : Int)) := hmx
      have hid0 : (w.alloc (.cells #[.int .u8 f, .int .u64 s] 40)).cell? ⟨w.heap.size, 0, none⟩ = some (.int .u8 f) := by simp
      have hid1 : (w.alloc (.cells #[.int .u8 f, .int .u64 s] 40)).cell? ⟨w.heap.size, 1, none⟩ = some (.int .u64 s) := by simp
      have HID : Hid ((w.alloc (.cells #[.int .u8 f, .int .u64 s] 40)).cell? ⟨w.heap.size, 0, none⟩ = some (.int .u8 f) ∧ (w.alloc (.cells #[.int .u8 f, .int .u64 s] 40)).cell? ⟨w.heap.size, 1, none⟩ = some (.int .u64 s)) := ⟨hid0, hid1⟩
      clear hid0 hid1
      go_enter Try.func5, Try.ntmps5
      go_wp2_with (first
        | (go_at_call 13; ((with_reducible refine (hnew _).mono ?_); rintro e w1 ⟨b, rb, G1, rfl, hma, hka, hra, hba, hGa⟩; have hra' : w.heap.size + 1 ≤ rb := (by simpa using hra); have H1 : Hid (One w w1 b rb N R0 G1 ∧ Kept No (w.alloc (.cells #[.int .u8 f, .int .u64 s] 40)) w1 ∧ w.heap.size + 1 ≤ rb) := ⟨⟨hma, HKA.out.trans hka, by omega⟩, hka, hra'⟩; have hrb1 := hma.lt; have hGlt : Hid (∀ k, G1 k → k < w1.heap.size) := hma.glt; clear hma hka hra hba hGa hra'))
        | (at_make; go_loud (refine wpList_make_tw (d := kB) rfl _ _ 41 rfl 4 (.bool false) 1 Try.underlying41 info_bool rfl false kB_zero 20 rfl rfl (by decide) (by decide) ?_; intro wb htb hkb; have HB0 : Hid (Kept No w1 wb ∧ TW kB 4 wb No (.slice (some ⟨w1.heap.size, 0, none⟩) 20 20) (List.replicate 20 false)) := ⟨hkb, htb⟩; clear hkb htb)))
      clear hnew
      have hgn : Gn w wb wb b rb w1.heap.size N R0 R0 G1 := by
        have hTW := HB0.out.2
        obtain ⟨cs, hW, hR, _⟩ := hTW
        have hlt := HB0.out.2.lt _ rfl
        obtain ⟨cur, hcur⟩ := hlt.2
        refine ⟨H1.out.1.new HB0.out.1, fun h => by have := hGlt.out _ h; omega, hlt.1, by omega, by omega, H1.out.1.k.size, fun i hi => ?_, fun i => frozen_of_row _ _ _ _ _ hcur, Kept.refl _ _⟩
        rw [HR0.out.2.2]
        have hr : (List.replicate 20 false)[i]? = some false := by rw [List.getElem?_replicate, if_pos hi]
        obtain ⟨c1, ⟨e1, _⟩, e2⟩ := hR.get hr
        have e3 := e2 0 _ (by rw [e1]; rfl)
        have e4 := hW.cell i _ (by simpa [kB, flat] using e3)
        simpa using e4
      obtain ⟨gb, hgb⟩ : ∃ gb, gb = w1.heap.size := ⟨_, rfl⟩
      rw [← hgb] at hgn ⊢
      have HGN : Hid (Gn w wb wb b rb gb N R0 R0 G1) := hgn
      have HIB : Hid (wb.cell? ⟨w.heap.size, 0, none⟩ = some (.int .u8 f) ∧ wb.cell? ⟨w.heap.size, 1, none⟩ = some (.int .u64 s)) := ⟨(H1.out.2.1.trans HB0.out.1).cell HID.out.1 id, (H1.out.2.1.trans HB0.out.1).cell HID.out.2 id⟩
      have hib : w.heap.size < rb ∧ w.heap.size < gb := by
        have e1 := H1.out.2.2
        have e2 := H1.out.2.1.size
        simp at e2
        omega
      obtain ⟨ib, hibe⟩ : ∃ ib, ib = w.heap.size := ⟨_, rfl⟩
      rw [← hibe] at hib HIB ⊢
      clear hgn hgb HB0 H1 HID hibe hGlt hrb1
      go_loopw [9, 10] (fun t9 i wr => ∃ k : Nat, k ≤ L ∧ i = .int .i64 k ∧ ∃ R G, R = (l.take k).foldl deed R0 ∧ Gn w wb wr b rb gb N R R G ∧ t9 = .int .i64 (leftN R)) (fun _ i _ => L - (intOf i).toNat)
      case atStart => exact ⟨0, Nat.zero_le _, rfl, R0, G1, rfl, HGN.out, by rw [HR0.out.1, ← HMX.out]⟩
      case round =>
        obtain ⟨k, hk, rfl, R, G, hR, hgn, rfl⟩ := hrel
        by_cases hlt : k < L
        · obtain ⟨⟨xg, xp, xi, xd, xh⟩, hx⟩ : ∃ x, l[k]? = some x := ⟨_, List.getElem?_eq_getElem (by rw [← HL.out]; exact hlt)⟩
          have sx := foldl_snoc deed R0 l k _ hx
          rw [← hR] at sx
          obtain ⟨bl, off, vd, vh, rfl, hbl, hcx, px, ix, hdx, hhx⟩ := HAT.out k _ hx
          simp only at hcx hdx hhx px ix
          obtain ⟨A0, c0, rfl, _⟩ := hdx.slice
          obtain ⟨A1, c1, rfl, _⟩ := hhx.slice
          have hkw := hgn.o.k
          have d0 : wr.cell? ⟨bl, off + k * 5, none⟩ = some (.bool xg) := hkw.cell (hcx 0 _ rfl) id
          have d1 := hkw.cell (hcx 1 _ rfl) id
          have d2 := hkw.cell (hcx 2 _ rfl) id
          have d3 := hkw.cell (hcx 3 _ rfl) id
          have d4 := hkw.cell (hcx 4 _ rfl) id
          have hrlt := hgn.o.m.lt.2
          have hglt := hgn.lt
          have hRl := hgn.o.m.len
          have hq64 : leftN R ≤ N := by have := leftN_le R; omega
          obtain ⟨q, hq⟩ : ∃ q, q = leftN R := ⟨_, rfl⟩
          rw [← hq] at hq64 ⊢
          have HQ : Hid (q = leftN R) := hq
          have HS : Hid (InR .i64 xp ∧ InR .u64 xi ∧ Sl (kI .u64) w (Old w) (.slice A0 xd.length c0) xd ∧ Sl (kI .u64) w (Old w) (.slice A1 xh.length c1) xh) := ⟨px, ix, hdx, hhx⟩
          have HT : Hid (Gn w wb wr b rb gb N R R G ∧ (l.take (k + 1)).foldl deed R0 = deed R ⟨xg, xp, xi, xd, xh⟩ ∧ R.length = N) := ⟨hgn, sx, hRl⟩
          clear hkw hcx px ix hdx hhx hgn sx hx hR hRl hq
          have hblr : bl < wr.heap.size := World.block_lt_of_cell? wr _ d0
          have HF : Hid (∀ W, Kept (fun k => k = rb ∨ k = gb) (wr.alloc (.cells #[.bool xg, .int .i64 xp, .int .u64 xi, .slice A0 xd.length c0, .slice A1 xh.length c1] 29)) W → W.cell? ⟨wr.heap.size, 0, none⟩ = some (.bool xg) ∧ W.cell? ⟨wr.heap.size, 1, none⟩ = some (.int .i64 xp) ∧ W.cell? ⟨wr.heap.size, 2, none⟩ = some (.int .u64 xi) ∧ W.cell? ⟨wr.heap.size, 3, none⟩ = some (.slice A0 xd.length c0) ∧ W.cell? ⟨wr.heap.size, 4, none⟩ = some (.slice A1 xh.length c1)) := by
            intro W hW
            have hne : ¬ (fun k => k = rb ∨ k = gb) wr.heap.size := fun e => by rcases e with e | e <;> omega
            exact ⟨hW.cell (by simp) hne, hW.cell (by simp) hne, hW.cell (by simp) hne, hW.cell (by simp) hne, hW.cell (by simp) hne⟩
          have f0 : True := trivial
          have f1 : True := trivial
          have f2 : True := trivial
          have f3 : True := trivial
          have f4 : True := trivial
          by_cases hgx : 100 < xd.length ∨ 100 < xh.length
          · go_wp2_with (first | (go_at_call 14; ((with_reducible refine (great_yes _ hgx).mono ?_); rintro e w5 ⟨rfl, hk5⟩)) | (go_at_call 12; ((with_reducible refine (HA _).mono ?_); rintro e w6 ⟨rfl, hk6⟩)))
            go_ret
            exact ⟨rfl, HT.out.1.o.k.trans ((((Kept.refl _ wr).alloc _).trans hk5).trans hk6)⟩
          · have hxl : xd.length ≤ 100 ∧ xh.length ≤ 100 := by omega
            cases xg with
            | false =>
              go_wp2_with (first
                | (go_at_call 14; ((with_reducible refine (great_no _ hgx).mono ?_); rintro e w5 ⟨rfl, hk5⟩; have H5 : Hid (Kept No (wr.alloc (.cells #[.bool _, .int .i64 _, .int .u64 xi, .slice A0 xd.length c0, .slice A1 xh.length c1] 29)) w5 ∧ Gn w wb w5 b rb gb N R R G) := ⟨hk5, HT.out.1.new (((Kept.refl _ wr).alloc _).trans hk5)⟩; clear f0 f1 f2 f3 f4; obtain ⟨f0, f1, f2, f3, f4⟩ := HF.out _ hk5.no; have hb15 := World.block_lt_of_cell? w5 _ f1; have hrb5 : rb < w5.heap.size := H5.out.2.o.m.lt.2; clear hk5))
                | (go_at_call 16; go_loud ((with_reducible refine (gn_tell w5 H5.out.2 xp xi _ _ xd xh HS.out.2.1 HS.out.2.2.1 HS.out.2.2.2 hxl.1 hxl.2).mono ?_); rintro e w8 ⟨rfl, ⟨G8, h8⟩, hk8⟩)))
              go_roundw
              case rel => exact ⟨k + 1, by omega, by go_num, deed R ⟨false, xp, xi, xd, xh⟩, G8, HT.out.2.1.symm, h8.swap (fun i => goneAt_tell _ _ _ _ _ _), by rw [HQ.out]; exact congrArg (fun x : Nat => Value.int .i64 x) (leftN_tell R xp xi xd xh).symm⟩
              case measure => simp [intOf]; omega
            | true =>
              have hgl := leftN_gone R xp
              obtain ⟨g, hg⟩ : ∃ g, g = gone1n R xp := ⟨_, rfl⟩
              rw [← hg, ← HQ.out] at hgl
              have HG : Hid (g = gone1n R xp ∧ (q : Int) - g = leftN (gone1 R xp)) := ⟨hg, hgl.1⟩
              have hg01 := hgl.2
              clear hg hgl
              by_cases hg1 : g = 1
              · subst hg1
                have hp1 := gone1n_one HG.out.1.symm
                rw [HT.out.2.2] at hp1
                obtain ⟨p, rfl⟩ : ∃ p : Nat, xp = p := ⟨xp.toNat, by omega⟩
                go_wp2_with (first
                  | (go_at_call 14; ((with_reducible refine (great_no _ hgx).mono ?_); rintro e w5 ⟨rfl, hk5⟩; have H5 : Hid (Kept No (wr.alloc (.cells #[.bool _, .int .i64 _, .int .u64 xi, .slice A0 xd.length c0, .slice A1 xh.length c1] 29)) w5 ∧ Gn w wb w5 b rb gb N R R G) := ⟨hk5, HT.out.1.new (((Kept.refl _ wr).alloc _).trans hk5)⟩; clear f0 f1 f2 f3 f4; obtain ⟨f0, f1, f2, f3, f4⟩ := HF.out _ hk5.no; have hb15 := World.block_lt_of_cell? w5 _ f1; have hrb5 : rb < w5.heap.size := H5.out.2.o.m.lt.2; clear hk5))
                  | (go_at_call 15; go_loud ((with_reducible refine (gn_gone _ (H5.out.2.new ((Kept.refl _ _).alloc _)) p (by simp) HS.out.1 (by omega)).mono ?_); rintro e w8 ⟨rfl, h8, hk8⟩; rw [← HG.out.1]; have H8 : Hid (Gn w wb w8 b rb gb N (gone1 R p) R G) := h8; clear f0 f1 f2 f3 f4; obtain ⟨f0, f1, f2, f3, f4⟩ := HF.out _  (H5.out.1.no.trans ((((Kept.refl _ w5).alloc _).trans hk8).mono fun _ _ e => .inl e)); have hgl8 := h8.lt; have hcg := h8.c p (by omega); have hfg := h8.f p; clear h8 hk8)))
                go_roundw
                case rel => exact ⟨k + 1, by omega, by go_num, deed R ⟨true, p, xi, xd, xh⟩, G, HT.out.2.1.symm, H8.out.put (p := p) (by omega) (put_law HT.out.2.2 hp1.2), by have e := HG.out.2; rw [show deed R ⟨true, p, xi, xd, xh⟩ = gone1 R p from rfl]; rw [← e]⟩
                case measure => simp [intOf]; omega
              · have hg0 : g = 0 := by omega
                subst hg0
                go_wp2_with (first
                  | (go_at_call 14; ((with_reducible refine (great_no _ hgx).mono ?_); rintro e w5 ⟨rfl, hk5⟩; have H5 : Hid (Kept No (wr.alloc (.cells #[.bool _, .int .i64 _, .int .u64 xi, .slice A0 xd.length c0, .slice A1 xh.length c1] 29)) w5 ∧ Gn w wb w5 b rb gb N R R G) := ⟨hk5, HT.out.1.new (((Kept.refl _ wr).alloc _).trans hk5)⟩; clear f0 f1 f2 f3 f4; obtain ⟨f0, f1, f2, f3, f4⟩ := HF.out _ hk5.no; have hb15 := World.block_lt_of_cell? w5 _ f1; have hrb5 : rb < w5.heap.size := H5.out.2.o.m.lt.2; clear hk5))
                  | (go_at_call 15; go_loud ((with_reducible refine (gn_gone _ (H5.out.2.new ((Kept.refl _ _).alloc _)) xp (by simp) HS.out.1 (by omega)).mono ?_); rintro e w8 ⟨rfl, h8, hk8⟩; rw [← HG.out.1]; have H8 : Hid (Gn w wb w8 b rb gb N (gone1 R xp) R G) := h8; clear h8 hk8)))
                go_roundw
                case rel => exact ⟨k + 1, by omega, by go_num, deed R ⟨true, xp, xi, xd, xh⟩, G, HT.out.2.1.symm, H8.out.swap (fun i => gone1n_zero HG.out.1.symm i), by have e := HG.out.2; rw [show deed R ⟨true, xp, xi, xd, xh⟩ = gone1 R xp from rfl]; rw [← e]; go_num⟩
                case measure => simp [intOf]; omega
        · have hkL : k = L := by omega
          subst hkL
          have t1 : l.take k = l := List.take_of_length_le (by rw [HL.out]; exact Nat.le_refl _)
          have hrlt := hgn.o.m.lt.2
          have hRl := hgn.o.m.len
          have hwide : Wide N R := hgn.o.m.wide
          obtain ⟨q, hq⟩ : ∃ q, q = leftN R := ⟨_, rfl⟩
          have hq64 : q ≤ N := by have := leftN_le R; omega
          rw [← hq]
          have HQ : Hid (q = leftN R) := hq
          have HG : Hid (Gn w wb wr b rb gb N R R G ∧ R.length = N ∧ Wide N R) := ⟨hgn, hRl, hwide⟩
          clear hgn hRl hwide hR t1 hq
          go_wp2_with (go_at_call 18; ((with_reducible refine (stable_any wr HG.out.1.o.m).mono ?_); rintro e w1 ⟨v12, rfl, hs1, hk1⟩; have H1 : Hid (Gn w wb w1 b rb gb N R R G ∧ Sl (kI .u64) w1 (fun _ => True) v12 (stableM N R)) := ⟨HG.out.1.new hk1, hs1.mono fun _ _ _ => trivial⟩; clear hk1 hs1; obtain ⟨A12, n12, c12, e12⟩ : ∃ A n c, v12 = .slice A n c := (by obtain ⟨A, c, h, _⟩ := H1.out.2.slice; exact ⟨A, _, c, h⟩); subst e12))
          go_loopw [13] (fun i wr => ∃ j : Nat, i = .int .i64 j ∧ j ≤ N ∧ Kept No w1 wr) (fun i _ => N - (intOf i).toNat)
          case atStart => exact ⟨0, rfl, Nat.zero_le _, Kept.refl _ _⟩
          case round =>
            obtain ⟨j, rfl, hj, hkq⟩ := hrel
            have HK : Hid (Kept No w1 wr) := hkq
            have HGq : Hid (Gn w wb wr b rb gb N R R G) := H1.out.1.new hkq
            have hglt := HGq.out.lt
            clear hkq
            by_cases hex : j < N ∧ 0 < q
            · obtain ⟨hjN, hq0⟩ := hex
              have hcj := HGq.out.c j (by omega)
              cases hgj : goneAt R j with
              | true =>
                rw [hgj] at hcj
                clear hgj
                go_wp2
                go_roundw
                case rel => exact ⟨j + 1, by go_num, by omega, HK.out⟩
                case measure => simp [intOf]; omega
              | false =>
                rw [hgj] at hcj
                obtain ⟨r, hr⟩ : ∃ r, R[j]? = some r := ⟨_, List.getElem?_eq_getElem (by rw [HG.out.2.1]; exact hjN)⟩
                have hrg : r.gone = false := by unfold goneAt at hgj; rw [hr] at hgj; exact hgj
                have hrl : r ∈ leftL R := left_mem.2 ⟨List.mem_of_getElem? hr, hrg⟩
                have hne : leftL R ≠ [] := fun e => by rw [e] at hrl; cases hrl
                have hra : rowAt R (j : Int) = some r := by unfold rowAt; rw [if_neg (by omega)]; simpa using hr
                have hcov : coversM (doneOf R (j : Int)) (stableM N R) = true := by
                  unfold doneOf
                  rw [hra, covers_iff, stable_len HG.out.2.2]
                  intro i hi
                  exact (stable_iff HG.out.2.2 hne hi _).1 (Int.le_refl _) r hrl
                have hins : leastM R ≤ instOf R (j : Int) := by
                  unfold instOf
                  rw [hra]
                  exact (least_iff hne _).1 (Int.le_refl _) r hrl
                have HC : Hid (coversM (doneOf R (j : Int)) (stableM N R) = true ∧ leastM R ≤ instOf R (j : Int)) := ⟨hcov, hins⟩
                clear hgj hr hrg hrl hne hra hcov hins
                go_wp2_with (first
                  | (go_at_call 22; ((with_reducible refine (done_any wr HGq.out.o.m j).mono ?_); rintro e w3 ⟨v3, rfl, hs3, hk3⟩; have H3 : Hid (Kept No wr w3 ∧ Sl (kI .u64) w3 (fun _ => True) v3 (doneOf R j)) := ⟨hk3, hs3.mono fun _ _ _ => trivial⟩; clear hk3 hs3))
                  | (go_at_call 25; ((with_reducible refine (covers_any v3 _ _ _ w3 _ H3.out.2 (H1.out.2.new (HK.out.trans H3.out.1))).mono ?_); rw [HC.out.1]; rintro e w4 ⟨rfl, hk4⟩; have H4 : Hid (Kept No wr w4) := H3.out.1.trans hk4; clear hk4))
                  | (go_at_call 21; ((with_reducible refine (inst_any w4 (HGq.out.o.m.new H4.out) j).mono ?_); rintro e w5 ⟨rfl, rfl⟩; obtain ⟨I1, hI1⟩ : ∃ I, I = instOf R j := ⟨_, rfl⟩; rw [← hI1]; have HI : Hid (I1 = instOf R j) := hI1; clear hI1))
                  | (go_at_call 19; ((with_reducible refine (least_any w4 (HGq.out.o.m.new H4.out)).mono ?_); rintro e w6 ⟨rfl, hk6⟩; have H6 : Hid (Kept No wr w6) := H4.out.trans hk6; obtain ⟨M1, hM1⟩ : ∃ M, M = leastM R := ⟨_, rfl⟩; rw [← hM1]; have hMM : ¬ I1 < M1 := (by rw [hM1, HI.out]; have := HC.out.2; omega); clear hM1 hk6)))
                go_roundw
                case rel => exact ⟨j + 1, by go_num, by omega, HK.out.trans H6.out⟩
                case measure => simp [intOf]; omega
            · have hex2 : ¬ j < N ∨ (j < N ∧ ¬ 0 < q) := by omega
              have hid0 : wr.cell? ⟨ib, 0, none⟩ = some (.int .u8 f) := HGq.out.k.cell HIB.out.1 (fun e => by have e : ib = rb ∨ ib = gb := e; omega)
              have hid1 : wr.cell? ⟨ib, 1, none⟩ = some (.int .u64 s) := HGq.out.k.cell HIB.out.2 (fun e => by have e : ib = rb ∨ ib = gb := e; omega)
              clear hex
              rcases hex2 with hex2 | ⟨hex2, hex3⟩
              all_goals
                go_wp2_with (go_at_call 26; ((with_reducible refine (holders_any wr HGq.out.o.m f s hf).mono ?_); rintro e w2 ⟨v14, rfl, hs2, hk2⟩))
                obtain ⟨H, hH⟩ : ∃ H, H = holdersM N R f s := ⟨_, rfl⟩
                rw [← hH] at hs2
                have HHL : Hid ((∀ (i : Nat) x, H[i]? = some x → ∃ j : Nat, x = j ∧ j < N ∧ goneAt R j = false ∧ s ≤ vat (heldOf R j) f) ∧ ∀ (i : Nat) x y, H[i]? = some x → H[i + 1]? = some y → x < y) := by rw [hH]; exact holders_law HG.out.2.1
                have HG2 : Hid (Gn w wb w2 b rb gb N R R G) := HGq.out.new hk2
                have g0 := hk2.cell hid0 id
                have g1 := hk2.cell hid1 id
                have hglt2 := HG2.out.lt
                obtain ⟨AH, cH, hcl, hHm, hHc⟩ : ∃ AH cH, v14 = .slice AH H.length cH ∧ H.length ≤ 9223372036854775807 ∧ ∀ (i : Nat) x, H[i]? = some x → ∃ bh oh, AH = some ⟨bh, oh, none⟩ ∧ w2.cell? ⟨bh, oh + i, none⟩ = some (.int .i64 x) := by
                  rcases hs2.ints with ⟨hz, A', c', e⟩ | ⟨_, hm, bh, oh, ch, e, _, _, _, _, hc⟩
                  · exact ⟨A', c', by rw [hz]; exact e, by rw [hz]; simp, fun i x hx => by rw [hz] at hx; simp at hx⟩
                  · exact ⟨_, ch, e, hm, fun i x hx => ⟨bh, oh, rfl, (hc i x hx).1⟩⟩
                subst hcl
                obtain ⟨M, hM⟩ : ∃ M, M = H.length := ⟨_, rfl⟩
                rw [← hM] at hHm ⊢
                have HM : Hid (M = H.length ∧ ∀ (i : Nat) x, H[i]? = some x → ∃ bh oh, AH = some ⟨bh, oh, none⟩ ∧ w2.cell? ⟨bh, oh + i, none⟩ = some (.int .i64 x)) := ⟨hM, hHc⟩
                clear hH hM hHc hs2 hk2 hid0 hid1
                go_wp2
                go_loopw [15] (fun i wr => ∃ k : Nat, i = .int .i64 k ∧ k ≤ M ∧ Kept No w2 wr) (fun i _ => M - (intOf i).toNat)
                case atStart => exact ⟨0, rfl, Nat.zero_le _, Kept.refl _ _⟩
                case round =>
                  obtain ⟨i, rfl, hi, hkz⟩ := hrel
                  by_cases hlt : i < M
                  · obtain ⟨x, hx⟩ : ∃ x, H[i]? = some x := ⟨_, List.getElem?_eq_getElem (by rw [← HM.out.1]; exact hlt)⟩
                    obtain ⟨j, rfl, hjN, hgj, hsv⟩ := HHL.out.1 i x hx
                    obtain ⟨bh, oh, rfl, hcx⟩ := HM.out.2 i _ hx
                    have cx : wr.drew.cell? ⟨bh, oh + i, none⟩ = some (.int .i64 j) := hkz.cell hcx id
                    have cg : wr.drew.cell? ⟨gb, j, none⟩ = some (.bool false) := hkz.cell (by rw [← hgj]; exact HG2.out.c j (by omega)) id
                    have e0 : wr.drew.cell? ⟨ib, 0, none⟩ = some (.int .u8 f) := hkz.cell g0 id
                    have e1 : wr.drew.cell? ⟨ib, 1, none⟩ = some (.int .u64 s) := hkz.cell g1 id
                    have HGz : Hid (Gn w wb wr b rb gb N R R G ∧ Kept No w2 wr) := ⟨HG2.out.new hkz, hkz⟩
                    obtain ⟨V, hV⟩ : ∃ V, V = vat (heldOf R j) f := ⟨_, rfl⟩
                    have hVs : ¬ V < s := by rw [hV]; omega
                    have hj0 : ¬ (j : Int) < 0 := by omega
                    have hj19 : ¬ (19 : Int) < (j : Int) := by omega
                    have hj20 : j < 20 := by omega
                    have hwf : IntKind.i64.wrap (f : Int) = (f : Int) := by rw [IntKind.wrap_i64]; omega
                    have hj20i : (j : Int) < 20 := by omega
                    have hj20n : ¬ (20 : Int) ≤ (j : Int) := by omega
                    have hdd : (decide ((j : Int) < 0) || decide (19 < (j : Int))) = false := by simp [hj0, hj19]
                    have hVd : decide (V < s) = false := by simp; omega
                    have HV : Hid (V = vat (heldOf R j) f) := hV
                    clear hV hsv hgj hkz hcx
                    by_cases hi0 : i = 0
                    · subst hi0
                      clear hx
                      rw [Nat.add_zero] at cx
                      go_wp2
                      refine wp_region_plan No (.pur 0 (.pur 1 (.pur 2 (.rd 3 (.pur 4 (.pur 5 (.pur 6 (.pur 7 (.pur 8 (.rd 9 (.pur 10 (.pur 11 (.pur 12 (.pur 13 (.pur 14 (.pur 15 (.pur 16 (.rd 17 (.pur 18 (.rd 19 (.pur 20 (.pur 21 (.pur 22 (.pur 23 (.pur 24 (.pur 25 (.pur 28 (.pur 32 (.rd 26 (.rd 29 (.pur 30 (.rd 33 (.grow 27 (.grow 31 (.pur 34 (.pur 35 (.pur 36 (.pur 37 (.pur 38 (.pur 39 (.pur 40 (.pur 41 (.pur 42 (.pur 43 (.pur 45 (.pur 46 (.pur 47 (.rd 44 (.rd 48 (.pur 49 (.pur 50 (.pur 51 .fin)))))))))))))))))))))))))))))))))))))))))))))))))))) [] mixed (by kernel_rfl) ?_
                      repeat ((first | refine pl_pur (by simp only [List.getD_cons_succ, List.getD_cons_zero]; rfl) _ (by rfl) (fun W => by go_simp; with_reducible rfl) ?_ | refine pl_rd (by simp only [List.getD_cons_succ, List.getD_cons_zero]; rfl) _ (by rfl) (fun W hW => by have hc := hW.cell (cx) id; clear hW; go_simp; with_reducible rfl) ?_ | refine pl_rd (by simp only [List.getD_cons_succ, List.getD_cons_zero]; rfl) _ (by rfl) (fun W hW => by have hc := hW.cell (cg) id; clear hW; go_simp; with_reducible rfl) ?_ | refine pl_rd (by simp only [List.getD_cons_succ, List.getD_cons_zero]; rfl) _ (by rfl) (fun W hW => by have hc := hW.cell (e0) id; clear hW; go_simp; with_reducible rfl) ?_ | refine pl_rd (by simp only [List.getD_cons_succ, List.getD_cons_zero]; rfl) _ (by rfl) (fun W hW => by have hc := hW.cell (e1) id; clear hW; go_simp; with_reducible rfl) ?_); simp only [Act.put, List.setIfInBounds_toArray, List.set_cons_zero, List.set_cons_succ])
                      try simp only [hj0, hj19, decide_false, Bool.or_false, Bool.or_self]
                      repeat ((first | refine pl_pur (by simp only [List.getD_cons_succ, List.getD_cons_zero]; rfl) _ (by rfl) (fun W => by go_simp; with_reducible rfl) ?_ | refine pl_rd (by simp only [List.getD_cons_succ, List.getD_cons_zero]; rfl) _ (by rfl) (fun W hW => by have hc := hW.cell (cx) id; clear hW; go_simp; with_reducible rfl) ?_ | refine pl_rd (by simp only [List.getD_cons_succ, List.getD_cons_zero]; rfl) _ (by rfl) (fun W hW => by have hc := hW.cell (cg) id; clear hW; go_simp; with_reducible rfl) ?_ | refine pl_rd (by simp only [List.getD_cons_succ, List.getD_cons_zero]; rfl) _ (by rfl) (fun W hW => by have hc := hW.cell (e0) id; clear hW; go_simp; with_reducible rfl) ?_ | refine pl_rd (by simp only [List.getD_cons_succ, List.getD_cons_zero]; rfl) _ (by rfl) (fun W hW => by have hc := hW.cell (e1) id; clear hW; go_simp; with_reducible rfl) ?_); simp only [Act.put, List.setIfInBounds_toArray, List.set_cons_zero, List.set_cons_succ])
                      refine pl_grow (by simp only [List.getD_cons_succ, List.getD_cons_zero]; rfl) ?_
                      go_wp2_with (go_at_call 23; ((with_reducible refine (held_any wr.drew (HGz.out.1.o.m.new (Kept.refl _ _).drew) j).mono ?_); rintro e w3 ⟨v3, rfl, hs3, hk3⟩))
                      refine GPost.mk hk3 ?_
                      have H3 : Hid (Kept No wr.drew w3 ∧ Sl (kI .u64) w3 (fun _ => True) v3 (heldOf R j)) := ⟨hk3, hs3.mono fun _ _ _ => trivial⟩
                      have cx3 := hk3.cell cx id

                      clear hk3 hs3
                      repeat ((first | refine pl_pur (by simp only [List.getD_cons_succ, List.getD_cons_zero]; rfl) _ (by rfl) (fun W => by go_simp; with_reducible rfl) ?_ | refine pl_rd (by simp only [List.getD_cons_succ, List.getD_cons_zero]; rfl) _ (by rfl) (fun W hW => by have hc := hW.cell (cx3) id; clear hW; go_simp; with_reducible rfl) ?_); simp only [Act.put, List.setIfInBounds_toArray, List.set_cons_zero, List.set_cons_succ])
                      refine pl_grow (by simp only [List.getD_cons_succ, List.getD_cons_zero]; rfl) ?_
                      go_wp2_with (go_at_call 27; ((with_reducible refine (r4at_any v3 _ f w3 _ H3.out.2).mono ?_); rintro e w4 ⟨rfl, rfl⟩))
                      rw [← HV.out]
                      refine GPost.mk (Kept.refl _ _) ?_
                      repeat ((first | refine pl_pur (by simp only [List.getD_cons_succ, List.getD_cons_zero]; rfl) _ (by rfl) (fun W => by go_simp; with_reducible rfl) ?_ | refine pl_rd (by simp only [List.getD_cons_succ, List.getD_cons_zero]; rfl) _ (by rfl) (fun W hW => by have hc := hW.cell (cx3) id; clear hW; go_simp; with_reducible rfl) ?_); simp only [Act.put, List.setIfInBounds_toArray, List.set_cons_zero, List.set_cons_succ])
                      try simp only [hVs, decide_false, Bool.or_false, Bool.or_self]
                      repeat ((first | refine pl_pur (by simp only [List.getD_cons_succ, List.getD_cons_zero]; rfl) _ (by rfl) (fun W => by go_simp; with_reducible rfl) ?_ | refine pl_rd (by simp only [List.getD_cons_succ, List.getD_cons_zero]; rfl) _ (by rfl) (fun W hW => by have hc := hW.cell (cx3) id; clear hW; go_simp; with_reducible rfl) ?_ | refine pl_skip (by simp only [List.getD_cons_succ, List.getD_cons_zero]; rfl) (by rfl) ?_ | refine pl_skip_rd (by simp only [List.getD_cons_succ, List.getD_cons_zero]; rfl) (by rfl) ?_ | refine pl_skip_grow (by simp only [List.getD_cons_succ, List.getD_cons_zero]; rfl) (by rfl) ?_ | refine pl_skip_act (by simp only [List.getD_cons_succ, List.getD_cons_zero]; rfl) (by rfl) ?_); simp only [Act.put, List.setIfInBounds_toArray, List.set_cons_zero, List.set_cons_succ])
                      refine pl_fin ?_
                      go_wp2
                      go_roundw
                      case rel => exact ⟨0 + 1, by go_num, by omega, HGz.out.2.trans (((Kept.refl No wr).drew).trans H3.out.1)⟩
                      case measure => simp [intOf]; omega
                    · obtain ⟨i', hi'⟩ : ∃ i', i = i' + 1 := ⟨i - 1, by omega⟩
                      obtain ⟨y, hy⟩ : ∃ y, H[i']? = some y := ⟨_, List.getElem?_eq_getElem (by rw [← HM.out.1]; omega)⟩
                      have hyx := HHL.out.2 i' y _ hy (by rw [← hi']; exact hx)
                      obtain ⟨j', rfl, _, _, _⟩ := HHL.out.1 i' y hy
                      obtain ⟨bh', oh', hbe, hcy⟩ := HM.out.2 i' _ hy
                      simp only [Option.some.injEq, Addr.mk.injEq, and_true] at hbe
                      obtain ⟨rfl, rfl⟩ := hbe
                      have cy : wr.drew.cell? ⟨bh, oh + i', none⟩ = some (.int .i64 j') := HGz.out.2.cell hcy id
                      have hw1 : IntKind.i64.wrap ((i : Int) - 1) = (i' : Int) := by rw [IntKind.wrap_i64]; omega
                      have hjj : ¬ (j : Int) ≤ (j' : Int) := by omega
                      have hi1 : (0 : Int) < (i : Int) := by omega
                      have hi1n : 0 < i := by omega
                      have hid1 : decide ((0 : Int) < (i : Int)) = true := by simp; omega
                      have hiM : i' < M := by omega
                      clear hi'
                      clear hx hy hcy hi0
                      go_wp2
                      refine wp_region_plan No (.pur 0 (.pur 1 (.pur 2 (.rd 3 (.pur 4 (.pur 5 (.pur 6 (.pur 7 (.pur 8 (.rd 9 (.pur 10 (.pur 11 (.pur 12 (.pur 13 (.pur 14 (.pur 15 (.pur 16 (.rd 17 (.pur 18 (.rd 19 (.pur 20 (.pur 21 (.pur 22 (.pur 23 (.pur 24 (.pur 25 (.pur 28 (.pur 32 (.rd 26 (.rd 29 (.pur 30 (.rd 33 (.grow 27 (.grow 31 (.pur 34 (.pur 35 (.pur 36 (.pur 37 (.pur 38 (.pur 39 (.pur 40 (.pur 41 (.pur 42 (.pur 43 (.pur 45 (.pur 46 (.pur 47 (.rd 44 (.rd 48 (.pur 49 (.pur 50 (.pur 51 .fin)))))))))))))))))))))))))))))))))))))))))))))))))))) [] mixed (by kernel_rfl) ?_
                      repeat ((first | refine pl_pur (by simp only [List.getD_cons_succ, List.getD_cons_zero]; rfl) _ (by rfl) (fun W => by go_simp; with_reducible rfl) ?_ | refine pl_rd (by simp only [List.getD_cons_succ, List.getD_cons_zero]; rfl) _ (by rfl) (fun W hW => by have hc := hW.cell (cx) id; clear hW; go_simp; with_reducible rfl) ?_ | refine pl_rd (by simp only [List.getD_cons_succ, List.getD_cons_zero]; rfl) _ (by rfl) (fun W hW => by have hc := hW.cell (cg) id; clear hW; go_simp; with_reducible rfl) ?_ | refine pl_rd (by simp only [List.getD_cons_succ, List.getD_cons_zero]; rfl) _ (by rfl) (fun W hW => by have hc := hW.cell (e0) id; clear hW; go_simp; with_reducible rfl) ?_ | refine pl_rd (by simp only [List.getD_cons_succ, List.getD_cons_zero]; rfl) _ (by rfl) (fun W hW => by have hc := hW.cell (e1) id; clear hW; go_simp; with_reducible rfl) ?_); simp only [Act.put, List.setIfInBounds_toArray, List.set_cons_zero, List.set_cons_succ])
                      try simp only [hj0, hj19, decide_false, Bool.or_false, Bool.or_self]
                      repeat ((first | refine pl_pur (by simp only [List.getD_cons_succ, List.getD_cons_zero]; rfl) _ (by rfl) (fun W => by go_simp; with_reducible rfl) ?_ | refine pl_rd (by simp only [List.getD_cons_succ, List.getD_cons_zero]; rfl) _ (by rfl) (fun W hW => by have hc := hW.cell (cx) id; clear hW; go_simp; with_reducible rfl) ?_ | refine pl_rd (by simp only [List.getD_cons_succ, List.getD_cons_zero]; rfl) _ (by rfl) (fun W hW => by have hc := hW.cell (cg) id; clear hW; go_simp; with_reducible rfl) ?_ | refine pl_rd (by simp only [List.getD_cons_succ, List.getD_cons_zero]; rfl) _ (by rfl) (fun W hW => by have hc := hW.cell (e0) id; clear hW; go_simp; with_reducible rfl) ?_ | refine pl_rd (by simp only [List.getD_cons_succ, List.getD_cons_zero]; rfl) _ (by rfl) (fun W hW => by have hc := hW.cell (e1) id; clear hW; go_simp; with_reducible rfl) ?_); simp only [Act.put, List.setIfInBounds_toArray, List.set_cons_zero, List.set_cons_succ])
                      refine pl_grow (by simp only [List.getD_cons_succ, List.getD_cons_zero]; rfl) ?_
                      go_wp2_with (go_at_call 23; ((with_reducible refine (held_any wr.drew (HGz.out.1.o.m.new (Kept.refl _ _).drew) j).mono ?_); rintro e w3 ⟨v3, rfl, hs3, hk3⟩))
                      refine GPost.mk hk3 ?_
                      have H3 : Hid (Kept No wr.drew w3 ∧ Sl (kI .u64) w3 (fun _ => True) v3 (heldOf R j)) := ⟨hk3, hs3.mono fun _ _ _ => trivial⟩
                      have cx3 := hk3.cell cx id
                      have cy3 := hk3.cell cy id
                      clear hk3 hs3
                      repeat ((first | refine pl_pur (by simp only [List.getD_cons_succ, List.getD_cons_zero]; rfl) _ (by rfl) (fun W => by go_simp; with_reducible rfl) ?_ | refine pl_rd (by simp only [List.getD_cons_succ, List.getD_cons_zero]; rfl) _ (by rfl) (fun W hW => by have hc := hW.cell (cx3) id; clear hW; go_simp; with_reducible rfl) ?_); simp only [Act.put, List.setIfInBounds_toArray, List.set_cons_zero, List.set_cons_succ])
                      refine pl_grow (by simp only [List.getD_cons_succ, List.getD_cons_zero]; rfl) ?_
                      go_wp2_with (go_at_call 27; ((with_reducible refine (r4at_any v3 _ f w3 _ H3.out.2).mono ?_); rintro e w4 ⟨rfl, rfl⟩))
                      rw [← HV.out]
                      refine GPost.mk (Kept.refl _ _) ?_
                      repeat ((first | refine pl_pur (by simp only [List.getD_cons_succ, List.getD_cons_zero]; rfl) _ (by rfl) (fun W => by go_simp; with_reducible rfl) ?_ | refine pl_rd (by simp only [List.getD_cons_succ, List.getD_cons_zero]; rfl) _ (by rfl) (fun W hW => by have hc := hW.cell (cx3) id; clear hW; go_simp; with_reducible rfl) ?_ | refine pl_rd (by simp only [List.getD_cons_succ, List.getD_cons_zero]; rfl) _ (by rfl) (fun W hW => by have hc := hW.cell (cy3) id; clear hW; go_simp; with_reducible rfl) ?_); simp only [Act.put, List.setIfInBounds_toArray, List.set_cons_zero, List.set_cons_succ])
                      try simp only [hVs, decide_false, Bool.or_false, Bool.or_self]
                      repeat ((first | refine pl_pur (by simp only [List.getD_cons_succ, List.getD_cons_zero]; rfl) _ (by rfl) (fun W => by go_simp; with_reducible rfl) ?_ | refine pl_rd (by simp only [List.getD_cons_succ, List.getD_cons_zero]; rfl) _ (by rfl) (fun W hW => by have hc := hW.cell (cx3) id; clear hW; go_simp; with_reducible rfl) ?_ | refine pl_rd (by simp only [List.getD_cons_succ, List.getD_cons_zero]; rfl) _ (by rfl) (fun W hW => by have hc := hW.cell (cy3) id; clear hW; go_simp; with_reducible rfl) ?_); simp only [Act.put, List.setIfInBounds_toArray, List.set_cons_zero, List.set_cons_succ])
                      try simp only [hi1n, decide_true]
                      repeat ((first | refine pl_pur (by simp only [List.getD_cons_succ, List.getD_cons_zero]; rfl) _ (by rfl) (fun W => by go_simp; with_reducible rfl) ?_ | refine pl_rd (by simp only [List.getD_cons_succ, List.getD_cons_zero]; rfl) _ (by rfl) (fun W hW => by have hc := hW.cell (cx3) id; clear hW; go_simp; with_reducible rfl) ?_ | refine pl_rd (by simp only [List.getD_cons_succ, List.getD_cons_zero]; rfl) _ (by rfl) (fun W hW => by have hc := hW.cell (cy3) id; clear hW; go_simp; with_reducible rfl) ?_); simp only [Act.put, List.setIfInBounds_toArray, List.set_cons_zero, List.set_cons_succ])
                      refine pl_fin ?_
                      go_wp2
                      go_roundw
                      case rel => exact ⟨i + 1, by go_num, by omega, HGz.out.2.trans (((Kept.refl No wr).drew).trans H3.out.1)⟩
                      case measure => simp [intOf]; omega
                  · go_wp2_with (go_at_call 12; ((with_reducible refine (HA _).mono ?_); rintro e w6 ⟨rfl, hk6⟩))
                    go_ret
                    exact ⟨rfl, HG2.out.o.k.trans (hkz.trans hk6)⟩
end Go.Proofs.Ytfnecdkfhackkaa
