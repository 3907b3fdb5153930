/- Walk: flumeref7.All (all records). -/
import Derived.Test.YtdfabjkffjacoaaScan
import Derived.Test.YtdfabjkffjacoaaReadsW
import Derived.Test.YtdfabjkffjacoaaSeq
namespace Go.Proofs.Ytdfabjkffjacoaa
open Go.RowKit

/-- the cells of a scan's state -/
def scv (s : Sc) (y : Nat) : Array Value := #[.int .i64 s.cnt, .int .i64 s.fin, .int .i64 s.nxt, .int .u32 s.sd, .int .i64 y]
/-- a placed record's cells -/
def plv (x : Nat × Nat × Value) : List Value := [.int .i64 x.1, .int .i64 x.2.1, x.2.2]

/-- a list of placed records, of one's own -/
structure Plcs (B : Nat) (w : World) (v : Value) (ps : List (Nat × Nat × List UInt8)) : Prop where
  ex : ∃ xs : List (Nat × Nat × Value), xs.length = ps.length ∧ w.ownsRow B 64 3 v ps.length (xs.flatMap plv) ∧
    ∀ i (h : i < ps.length) (h' : i < xs.length), xs[i].1 = ps[i].1 ∧ xs[i].2.1 = ps[i].2.1 ∧ ∃ A c, xs[i].2.2 = .slice A ps[i].2.2.length c ∧ Own B w A ps[i].2.2.length c ps[i].2.2

theorem Try.infoP : (Try.prog.info? 64).map (fun i => (i.zero, i.size, i.bytes)) = some (some (.agg #[.int .i64 0, .int .i64 0, .slice none 0 0]), 3, 40) := by kernel_rfl

def intAt (w : World) (g o : Nat) : Int := match w.cell? ⟨g, o, none⟩ with
  | some (.int _ z) => z
  | _ => 0
theorem intAt_of {w : World} {g o : Nat} {k : IntKind} {z : Int} (h : w.cell? ⟨g, o, none⟩ = some (.int k z)) : intAt w g o = z := by unfold intAt; rw [h]

/-- the loop's state: what has come, the scan's state, why it ended (0: not yet) -/
structure RA (w wr : World) (b : List UInt8) (n : Nat) (s0 : Sc) (v : Value) (ps : List (Nat × Nat × List UInt8)) (s : Sc) (y : Nat) : Prop where
  pl : Plcs (w.heap.size + 2) wr v ps
  bl : Below w.heap.size w wr
  big : w.heap.size + 2 ≤ wr.heap.size
  r0 : wr.heap[w.heap.size]? = some (.cells #[.int .i64 0, .int .i64 0, .int .i64 0, .int .u32 0, .int .i64 0] 57 (0, 0))
  r1 : wr.heap[w.heap.size + 1]? = some (.cells (scv s y) 57 (0, 0))
  fin : s.fin ≤ n
  nxt : s.nxt ≤ 9223372036854775807
  sd : s.sd < 4294967296
  cnt : s.cnt * 16 ≤ s.fin
  num : ps.length = s.cnt
  yb : y ≤ 6
  m0 : y = 0 → scanL b (n + 1) s0 = (ps ++ (scanL b (n + 1) s).1, (scanL b (n + 1) s).2)
  m1 : y ≠ 0 → scanL b (n + 1) s0 = (ps, s, y)

theorem results_cell_t1 {P : Program} {fn : Func} {p : Tmp} {ty : TypeId} {x : Tmp} (h : fn.results = #[.cell p ty, .tmp x]) (tmps : Array Value) (w : World) (g : Nat) (t : TypeId) (cs : Array Value) (fr : Nat × Nat) (d : TypeDesc)
    (hp : tmps.getD p undef = .pointer (some ⟨g, 0, none⟩)) (hg : w.heap[g]? = some (.cells cs t fr))
    (hu : P.underlying ty = some d) (hd : (match d with | .struct _ | .array _ _ => true | _ => false) = true) (hi : (P.info? ty).map (·.size) = some cs.size) :
    (results fn tmps).run P w = .ok (.tuple #[.agg cs, tmps.getD x undef]) w := by
  have hp' : tmps[p]?.getD undef = .pointer (some ⟨g, 0, none⟩) := by simpa using hp
  simp [results, h, hp', asAddr, run_loadVar_row w g t ty cs fr d hg hu hd hi]
theorem Plcs.only {B : Nat} {R : Nat → Prop} {w w1 : World} {v : Value} {ps : List (Nat × Nat × List UInt8)} (h : Plcs B w v ps) (hO : Only R w w1) (hR : ∀ j, R j → j < B) : Plcs B w1 v ps := by
  obtain ⟨xs, hl, hrow, hx⟩ := h.ex
  refine ⟨xs, hl, ?_, fun i hi hi' => ?_⟩
  · refine ⟨hrow.1, ?_⟩
    rcases hrow.2 with hn | ⟨g, cap, cur, hv, hbg, hg, r⟩
    · exact .inl hn
    · exact .inr ⟨g, cap, cur, hv, hbg, hO.row (fun hr => by have := hR g hr; omega) hg, r⟩
  · obtain ⟨h1, h2, A, c, h3, ho⟩ := hx i hi hi'
    exact ⟨h1, h2, A, c, h3, hO.own (fun ad ha hr => by have := hR _ hr; have := (ho.lt ad ha).1; omega) ho⟩
theorem Plcs.mono {B B' : Nat} {w : World} {v : Value} {ps : List (Nat × Nat × List UInt8)} (h : Plcs B w v ps) (hB : B' ≤ B) : Plcs B' w v ps := by
  obtain ⟨xs, hl, hrow, hx⟩ := h.ex
  refine ⟨xs, hl, ⟨hrow.1, ?_⟩, fun i hi hi' => ?_⟩
  · rcases hrow.2 with hn | ⟨g, cap, cur, hv, hbg, r⟩
    · exact .inl hn
    · exact .inr ⟨g, cap, cur, hv, Nat.le_trans hB hbg, r⟩
  · obtain ⟨h1, h2, A, c, h3, ho⟩ := hx i hi hi'
    exact ⟨h1, h2, A, c, h3, ho.mono hB⟩
theorem Only.rows' {w w1 : World} {B n size : Nat} {t : TypeId} {v : Value} {l : List Value} (h : Only (fun _ => False) w w1) (ho : w.ownsRow B t size v n l) : w1.ownsRow B t size v n l := by
  refine ⟨ho.1, ?_⟩
  rcases ho.2 with hn | ⟨g, cap, cur, hv, hbg, hg, r⟩
  · exact .inl hn
  · exact .inr ⟨g, cap, cur, hv, hbg, h.row (fun h => h) hg, r⟩
theorem own_low {w : World} {B n size : Nat} {t : TypeId} {v : Value} {l : List Value} (ho : w.ownsRow B t size v n l) {j : Nat} (h : v.ownBlock = some j) : B ≤ j := by
  rcases ho.2 with ⟨hv, _⟩ | ⟨g, cap, cur, hv, hbg, _⟩
  · rw [hv] at h; cases h
  · rw [hv] at h; cases h; exact hbg
def RAllP (w : World) (r : List (Nat × Nat × List UInt8) × Sc × Nat) (e : Ending) (w' : World) : Prop :=
  ∃ v, e = .returned (.tuple #[.agg (scv r.2.1 r.2.2), v]) ∧ Plcs w.heap.size w' v r.1 ∧ Below w.heap.size w w'
theorem RA.done {w wr : World} {b : List UInt8} {n : Nat} {s0 s : Sc} {v : Value} {ps : List (Nat × Nat × List UInt8)} {y : Nat} (hA : RA w wr b n s0 v ps s y) (hy : y ≠ 0) {a : Act} {W' : World} (hW : W' = wr.setRow w.heap.size (scv s y))
    (hd : a.defers = []) (hp : a.tmps.getD 8 undef = .pointer (some ⟨w.heap.size, 0, none⟩)) (h9 : a.tmps.getD 9 undef = v) :
    bodyPost Try.prog Try.f29 (RAllP w (scanL b (n + 1) s0)) .ret a W' := by
  subst hW
  rw [hA.m1 hy]
  refine bodyPost_ret (results_cell_t1 (x := 9) rfl _ _ _ _ _ _ _ hp (setRow_heap wr _ _ _ _ _ hA.r0) Try.underlying57 rfl (by simp only [scv]; kernel_rfl)) hd ?_
  rw [h9]
  have hO : Only (fun j => j = w.heap.size) wr (wr.setRow w.heap.size (scv s y)) := ⟨rfl, rfl, rfl, by simp, fun j _ hn => setRow_other _ _ j _ hn⟩
  exact ⟨v, rfl, (hA.pl.only hO (fun j hj => by omega)).mono (by omega), hA.bl.trans (hO.below hA.bl.size fun j hj => by omega)⟩

theorem RA.keep {w wr w8 : World} {b : List UInt8} {n : Nat} {s0 s : Sc} {v : Value} {ps : List (Nat × Nat × List UInt8)} {y : Nat} (hA : RA w wr b n s0 v ps s y) (hb : Below wr.heap.size wr w8) : RA w w8 b n s0 v ps s y :=
  ⟨hA.pl.only (R := fun _ => False) (Only.of_below hb) (fun _ h => h.elim), thn hA.bl hb, Nat.le_trans hA.big hb.size, (hb.block _ (Array.getElem?_eq_some_iff.1 hA.r0).1).trans hA.r0, (hb.block _ (Array.getElem?_eq_some_iff.1 hA.r1).1).trans hA.r1, hA.fin, hA.nxt, hA.sd, hA.cnt, hA.num, hA.yb, hA.m0, hA.m1⟩
theorem RA.meas {w wr : World} {b : List UInt8} {n : Nat} {s0 s : Sc} {v : Value} {ps : List (Nat × Nat × List UInt8)} {y : Nat} (hA : RA w wr b n s0 v ps s y) :
    2 * (n - (intAt wr (w.heap.size + 1) 1).toNat) + (if intAt wr (w.heap.size + 1) 4 = 0 then 1 else 0) = 2 * (n - s.fin) + (if y = 0 then 1 else 0) := by
  have h1 : intAt wr (w.heap.size + 1) 1 = (s.fin : Int) := intAt_of (k := .i64) (cell_of_row _ _ 1 _ _ _ hA.r1)
  have h4 : intAt wr (w.heap.size + 1) 4 = (y : Int) := intAt_of (k := .i64) (cell_of_row _ _ 4 _ _ _ hA.r1)
  rw [h1, h4]
  by_cases hy : y = 0
  · subst hy; simp
  · rw [if_neg hy, if_neg (by omega)]; simp
theorem RA.step {w w8 W' : World} {b : List UInt8} {n : Nat} {s0 s s' : Sc} {v v9 : Value} {ps : List (Nat × Nat × List UInt8)} {L : Nat} {d : List UInt8} (hA : RA w w8 b n s0 v ps s 0) (hl : b.length = n) (h1 : scan1 b s = .inl (L, d, s'))
    (hp : Plcs (w.heap.size + 2) W' v9 (ps ++ [(s.fin, L, d)])) (hO : Only (fun j => w.heap.size + 1 ≤ j) w8 W') (hr : W'.heap[w.heap.size + 1]? = some (.cells (scv s' 0) 57 (0, 0))) :
    RA w W' b n s0 v9 (ps ++ [(s.fin, L, d)]) s' 0 := by
  obtain ⟨i1, i2, i3, i4, i5, i6, i7, i8, i9⟩ := scan1_inl h1
  have hc := hA.cnt
  have hn := hA.num
  have hs := fsum_lt s.sd L d
  subst i8
  refine ⟨hp, hA.bl.trans (hO.below hA.bl.size fun j hj => by omega), Nat.le_trans hA.big hO.size, hO.row (by omega) hA.r0, hr, by simp only; omega, by simp only; omega, hs, by simp only; omega, by simp [hn], by omega, fun _ => ?_, fun h => absurd rfl h⟩
  rw [hA.m0 rfl]
  have hf := scanL_fuel b n (n + 1) ⟨s.cnt + 1, s.fin + (16 + d.length), s.nxt + 1, fsum s.sd L d⟩ (by simp only; omega) (by omega)
  rw [hf]
  conv =>
    lhs
    simp only [scanL, h1]
  simp
theorem RA.why {w wr : World} {b : List UInt8} {n : Nat} {s0 s : Sc} {v : Value} {ps : List (Nat × Nat × List UInt8)} (hA : RA w wr b n s0 v ps s 0) {y : Nat} (hy : scan1 b s = .inr y) (h6 : y ≤ 6) (h0 : y ≠ 0) :
    RA w (wr.setCell ⟨w.heap.size + 1, 4, none⟩ (.int .i64 y)) b n s0 v ps s y := by
  have hO := only_set wr (w.heap.size + 1) 4 (.int .i64 y)
  refine ⟨hA.pl.only hO (fun j hj => by omega), hA.bl.trans (hO.below hA.bl.size fun j hj => by omega), Nat.le_trans hA.big hO.size, hO.row (by omega) hA.r0, heap_setCell_same wr _ 4 _ _ _ hA.r1, hA.fin, hA.nxt, hA.sd, hA.cnt, hA.num, h6, fun h => absurd h h0, fun _ => ?_⟩
  rw [hA.m0 rfl]
  simp only [scanL, hy, List.append_nil]

theorem own_ne_row {B B' size k n c : Nat} {t : TypeId} {w : World} {v : Value} {xs : List Value} {A : Option Addr} {d : List UInt8} (hr : w.ownsRow B t size v k xs) (ho : Own B' w A n c d) (ht : t ≠ 5) :
    ∀ ad, A = some ad → some ad.block ≠ v.ownBlock := fun ad hA he => by
  rcases hr.2 with ⟨hv, _⟩ | ⟨g, cap, cur, hv, _, hg, _⟩
  · rw [hv] at he; cases he
  · rw [hv] at he
    cases he
    rcases ho.2 with ⟨hv', _⟩ | ⟨g', cap', cur', hv', _, hg', _⟩
    · rw [hA] at hv'; cases hv'
    · rw [hA] at hv'
      injection hv' with h1 _ _
      cases h1
      rw [hg] at hg'
      injection hg' with h2
      injection h2 with _ h3
      exact ht h3
theorem Plcs.push {B : Nat} {w8 w9 : World} {v v9 : Value} {ps : List (Nat × Nat × List UInt8)} {xs : List (Nat × Nat × Value)} {fi L n6 c6 : Nat} {A6 : Option Addr} {rb : List UInt8}
    (hxl : xs.length = ps.length) (hrow : w8.ownsRow B 64 3 v ps.length (xs.flatMap plv))
    (hxs : ∀ i (h : i < ps.length) (h' : i < xs.length), xs[i].1 = ps[i].1 ∧ xs[i].2.1 = ps[i].2.1 ∧ ∃ A c, xs[i].2.2 = .slice A ps[i].2.2.length c ∧ Own B w8 A ps[i].2.2.length c ps[i].2.2)
    (ho : Own B w8 A6 n6 c6 rb) {o : Obj} (hg9 : (w8.alloc o).grownBy w9 v.ownBlock) (hrow9 : w9.ownsRow B 64 3 v9 (ps.length + 1) (xs.flatMap plv ++ plv (fi, L, .slice A6 n6 c6))) :
    Plcs B w9 v9 (ps ++ [(fi, L, rb)]) := by
  have hba : Below w8.heap.size w8 (w8.alloc o) := (Below.refl _ _).alloc (Nat.le_refl _) _
  have hn := ho.len
  subst hn
  have hk : ∀ {A : Option Addr} {m c : Nat} {d : List UInt8}, Own B w8 A m c d → Own B w9 A m c d := fun h =>
    (h.keep hba).grown hg9 (own_ne_row hrow h (by decide))
  refine ⟨xs ++ [(fi, L, .slice A6 rb.length c6)], by simp [hxl], by simpa [List.flatMap_append] using hrow9, fun i h h' => ?_⟩
  by_cases hi : i < ps.length
  · obtain ⟨h1, h2, A, c, h3, h4⟩ := hxs i hi (by omega)
    rw [List.getElem_append_left hi, List.getElem_append_left (by omega)]
    exact ⟨h1, h2, A, c, h3, hk h4⟩
  · have hi' : i = ps.length := by simp at h; omega
    subst hi'
    rw [List.getElem_append_right (by omega), List.getElem_append_right (by omega)]
    simp only [hxl, Nat.sub_self, List.getElem_cons_zero]
    exact ⟨trivial, trivial, A6, c6, rfl, hk ho⟩
theorem set4 (w9 : World) (g : Nat) (cn fi nx sd cn' fi' nx' sd' : Nat) (y : Nat) (r9 : w9.heap[g]? = some (.cells (scv ⟨cn, fi, nx, sd⟩ y) 57 (0, 0))) (a b c d : Int) (ha : a = cn') (hb : b = fi') (hc : c = nx') (hd : d = sd') :
    ((((w9.setCell ⟨g, 0, none⟩ (.int .i64 a)).setCell ⟨g, 1, none⟩ (.int .i64 b)).setCell ⟨g, 2, none⟩ (.int .i64 c)).setCell ⟨g, 3, none⟩ (.int .u32 d)).heap[g]? = some (.cells (scv ⟨cn', fi', nx', sd'⟩ y) 57 (0, 0)) := by
  subst ha hb hc hd
  exact heap_setCell_same _ g 3 _ _ _ (heap_setCell_same _ g 2 _ _ _ (heap_setCell_same _ g 1 _ _ _ (heap_setCell_same _ g 0 _ _ _ r9)))
theorem only_set4 (w9 : World) (g : Nat) (a b c d : Value) : Only (fun j => j = g) w9 ((((w9.setCell ⟨g, 0, none⟩ a).setCell ⟨g, 1, none⟩ b).setCell ⟨g, 2, none⟩ c).setCell ⟨g, 3, none⟩ d) :=
  (((only_set w9 g 0 a).trans (only_set _ g 1 b) (fun _ _ h => h)).trans (only_set _ g 2 c) (fun _ _ h => h)).trans (only_set _ g 3 d) (fun _ _ h => h)

set_option maxRecDepth 100000 in
set_option maxHeartbeats 8000000 in
theorem rall_any (b : List UInt8) (A : Option Addr) (n c : Nat) (base : Int) (seed : Nat) (w : World) (hl : b.length = n) (hn : n ≤ 100000000) (hc : n ≤ c) (_hcm : c ≤ 9223372036854775807) (hr : Rd w A (bv b)) (hsd : seed < 4294967296)
    (g1 : 1 ≤ base) (g2 : base ≤ 9223372036854775807) :
    Calls Try.prog 29 #[.slice A n c, .int .i64 base, .int .u32 seed, .int .i64 (-1)] w (RAllP w (scanL b (n + 1) ⟨0, 0, base.toNat, seed⟩)) := by
  obtain ⟨bs, rfl⟩ := Int.eq_ofNat_of_zero_le (a := base) (by omega)
  have hb1 : decide ((bs : Int) < 1) = false := by simp; omega
  go_enter Try.func29, Try.ntmps29
  have hba : Below w.heap.size w ((w.alloc (Obj.cells #[.int .i64 0, .int .i64 0, .int .i64 0, .int .u32 0, .int .i64 0] 57)).alloc (Obj.cells #[.int .i64 0, .int .i64 0, .int .i64 bs, .int .u32 seed, .int .i64 0] 57)) := ((Below.refl _ _).alloc (Nat.le_refl _) _).alloc (by simp) _
  have p0 : ((w.alloc (Obj.cells #[.int .i64 0, .int .i64 0, .int .i64 0, .int .u32 0, .int .i64 0] 57)).alloc (Obj.cells #[.int .i64 0, .int .i64 0, .int .i64 bs, .int .u32 seed, .int .i64 0] 57)).heap[w.heap.size]? = some (.cells #[.int .i64 0, .int .i64 0, .int .i64 0, .int .u32 0, .int .i64 0] 57 (0, 0)) := heap_alloc2_old w _ _
  have p1 : ((w.alloc (Obj.cells #[.int .i64 0, .int .i64 0, .int .i64 0, .int .u32 0, .int .i64 0] 57)).alloc (Obj.cells #[.int .i64 0, .int .i64 0, .int .i64 bs, .int .u32 seed, .int .i64 0] 57)).heap[w.heap.size + 1]? = some (.cells #[.int .i64 0, .int .i64 0, .int .i64 bs, .int .u32 seed, .int .i64 0] 57 (0, 0)) := heap_alloc2_new w _ _
  have hsz : w.heap.size + 2 ≤ ((w.alloc (Obj.cells #[.int .i64 0, .int .i64 0, .int .i64 0, .int .u32 0, .int .i64 0] 57)).alloc (Obj.cells #[.int .i64 0, .int .i64 0, .int .i64 bs, .int .u32 seed, .int .i64 0] 57)).heap.size := by simp
  go_wp2_with fail
  generalize ((w.alloc (Obj.cells #[.int .i64 0, .int .i64 0, .int .i64 0, .int .u32 0, .int .i64 0] 57)).alloc (Obj.cells #[.int .i64 0, .int .i64 0, .int .i64 bs, .int .u32 seed, .int .i64 0] 57)) = W0 at *
  go_loopw [11, 12, 13, 14, 15] (fun v _ _ _ _ wr => ∃ (ps : List (Nat × Nat × List UInt8)) (s : Sc) (y : Nat), RA w wr b n ⟨0, 0, bs, seed⟩ v ps s y)
    (fun _ _ _ _ _ wr => 2 * (n - (intAt wr (w.heap.size + 1) 1).toNat) + (if intAt wr (w.heap.size + 1) 4 = 0 then 1 else 0))
  case atStart => exact ⟨[], ⟨0, 0, bs, seed⟩, 0, ⟨⟨[], rfl, World.ownsRow_nil _ _ _ _, fun i h => absurd h (Nat.not_lt_zero _)⟩, hba, hsz, p0, p1, by simp, by simp only; omega, hsd, by simp, rfl, by omega, fun _ => rfl, fun h => absurd rfl h⟩⟩
  case round =>
    obtain ⟨ps, s, y, hA⟩ := hrel
    obtain ⟨cn, fi, nx, sd⟩ := s
    have c0 := cell_of_row _ _ 0 _ _ _ hA.r1
    have c1 := cell_of_row _ _ 1 _ _ _ hA.r1
    have c2 := cell_of_row _ _ 2 _ _ _ hA.r1
    have c3 := cell_of_row _ _ 3 _ _ _ hA.r1
    have c4 := cell_of_row _ _ 4 _ _ _ hA.r1
    simp [scv] at c0 c1 c2 c3 c4
    by_cases hy : y = 0
    · subst hy
      have hfi := hA.fin
      simp only at hfi
      by_cases hend : fi = n
      · subst hend
        have h1 : scan1 b ⟨cn, fi, nx, sd⟩ = .inr 1 := by rw [scan1, if_pos (by simp only; omega)]
        have hA1 := hA.why h1 (by omega) (by omega)
        have f4 := frozen_of_row _ _ 4 _ _ hA.r1
        have d0 := cell_of_row _ _ 0 _ _ _ hA1.r1
        have d1 := cell_of_row _ _ 1 _ _ _ hA1.r1
        have d2 := cell_of_row _ _ 2 _ _ _ hA1.r1
        have d3 := cell_of_row _ _ 3 _ _ _ hA1.r1
        have d4 := cell_of_row _ _ 4 _ _ _ hA1.r1
        simp [scv] at d0 d1 d2 d3 d4
        go_wp2_with (first
          | (refine wpList_store_row rfl _ (.tmp 8) (.tmp 31) rfl _ #[.int .i64 cn, .int .i64 fi, .int .i64 nx, .int .u32 sd, .int .i64 1] rfl rfl _ _ hA1.r0 (by kernel_rfl) rfl (by kernel_rfl) ?_))
        refine hA1.done (by omega) ?_ ?_ ?_ ?_ <;> rfl
      · have hfl : fi < n := by omega
        have hbig := hA.big
        have hsd' := hA.sd
        simp only at hsd'
        have hrw := hr.keep hA.bl
        obtain ⟨ad, rfl, _⟩ := hrw.byte (k := 0) (by omega)
        have hcf : ¬ c = fi := by omega
        have hfn : (fi : Int) ≤ (n : Int) := by omega
        have hfne : ((fi : Int) == (n : Int)) = false := by simp; omega
        have hrd := rd_drop (A2 := some (ad.add fi)) hrw (by rw [if_neg hcf]; rfl) hl hc
        have hdl : (b.drop fi).length = n - fi := by rw [List.length_drop]; omega
        generalize hre : fread sd (b.drop fi) = r at *
        obtain ⟨rL, rb, rN, rS, rc⟩ := r
        have HR := Lib.hid hre
        have hna : w.heap.size + 1 ≠ wr.heap.size := by omega
        clear hre
        go_wp2_with fail
        go_region_held3 (fun w' => w'.cell? ⟨w.heap.size + 1, 1, none⟩ = some (.int .i64 fi) ∧ w'.cell? ⟨w.heap.size + 1, 3, none⟩ = some (.int .u32 sd)) (first | exact ⟨c1, c3⟩ | exact ⟨keep_cell (below_alloc_drew wr _) c1, keep_cell (below_alloc_drew wr _) c3⟩ | exact ⟨keep_cell hb6 c1, keep_cell hb6 c3⟩ | exact ⟨keep_cell hb6 (keep_cell (below_alloc_drew wr _) c1), keep_cell hb6 (keep_cell (below_alloc_drew wr _) c3)⟩ | exact ⟨keep_cell ((Below.refl _ _).alloc (Nat.le_refl _) _) (keep_cell hb6 c1), keep_cell ((Below.refl _ _).alloc (Nat.le_refl _) _) (keep_cell hb6 c3)⟩ | exact ⟨keep_set2 hna (keep_cell hb6 (keep_cell (below_alloc_drew wr _) c1)), keep_set2 hna (keep_cell hb6 (keep_cell (below_alloc_drew wr _) c3))⟩)
          (first
            | (go_at_call 22; refine (rread_any sd hsd' (b.drop fi) (n - fi) hdl (by omega) (some (ad.add fi)) (c - fi) (by omega) wr.drew hrd).mono ?_; rw [HR.out]; rintro e w6 ⟨A6, n6, c6, rfl, ho6, hb6⟩)
            | (go_at_call 22; refine (rread_any sd hsd' (b.drop fi) (n - fi) hdl (by omega) (some (ad.add fi)) (c - fi) (by omega) _ (hrd.keep (below_alloc_drew wr _))).mono ?_; rw [HR.out]; rintro e w6 ⟨A6, n6, c6, rfl, ho6, hb6⟩
               have hz6 : w6.heap[wr.heap.size]? = some (.cells #[.int .i64 0, .slice none 0 0] 34 (0, 0)) := (hb6.block _ (by show wr.heap.size < (wr.alloc _).heap.size; simp)).trans (heap_alloc_new wr _)
               have z0 := cell_of_row _ _ 0 _ _ _ hz6
               have z1 := cell_of_row _ _ 1 _ _ _ hz6
               have y0 := frozen_of_row _ _ 0 _ _ hz6
               have y1 := frozen_of_row _ _ 1 _ _ hz6))
        focus
          obtain ⟨p8, hb8, ho8, hg8⟩ := got_a (rL : Int) hb6 ho6
          obtain ⟨g8, hge⟩ : ∃ x, x = w6.heap.size := ⟨_, rfl⟩
          rw [← hge] at p8 hg8 ⊢
          generalize (w6.alloc (.cells #[.int .i64 rL, .slice A6 n6 c6] 34)) = w8 at p8 hb8 ho8 ⊢
          clear hge hb6 ho6
        rotate_left
        focus
          obtain ⟨p8, hb8, ho8, hg8⟩ := got_b (rL : Int) rfl hb6 ho6
          obtain ⟨g8, hge⟩ : ∃ x, x = wr.heap.size := ⟨_, rfl⟩
          generalize ((w6.setCell ⟨wr.heap.size, 0, none⟩ (.int .i64 rL)).setCell ⟨wr.heap.size, 1, none⟩ (.slice A6 n6 c6)) = w8 at p8 hb8 ho8 ⊢
          rw [← hge] at p8 ⊢
          have hg8 : wr.heap.size ≤ g8 := Nat.le_of_eq hge.symm
          clear hge hz6 z0 z1 y0 y1 hb6 ho6
        all_goals
          have hA8 := hA.keep hb8
          have e0 := cell_of_row _ _ 0 _ _ _ hA8.r1
          have e1 := cell_of_row _ _ 1 _ _ _ hA8.r1
          have e2 := cell_of_row _ _ 2 _ _ _ hA8.r1
          have e3 := cell_of_row _ _ 3 _ _ _ hA8.r1
          have e4 := cell_of_row _ _ 4 _ _ _ hA8.r1
          have f4 := frozen_of_row _ _ 4 _ _ hA8.r1
          simp [scv] at e0 e1 e2 e3 e4
          have q0 := cell_of_row _ _ 0 _ _ _ p8
          have q1 := cell_of_row _ _ 1 _ _ _ p8
          clear c0 c1 c2 c3 c4 hrw hrd hdl hna
          by_cases hrc : rc = 0
          · subst hrc
            by_cases hlsn : rL = nx
            · subst hlsn
              have hs1 : scan1 b ⟨cn, fi, rL, sd⟩ = .inl (rL, rb, ⟨cn + 1, fi + rN, rL + 1, rS⟩) := by
                rw [scan1, if_neg (by simp only; omega)]
                simp only [HR.out, if_true]
              obtain ⟨i1, i2, i3, i4, i5, i6, i7, i8, i9⟩ := scan1_inl hs1
              obtain ⟨xs, hxl, hrow, hxs⟩ := hA8.pl.ex
              obtain ⟨iP, hiP, hzP, hsP, hbP⟩ := info_parts Try.infoP
              have hnum := hA8.num
              have hcnt := hA8.cnt
              have hbg := hA8.big
              simp only at hnum hcnt i1 i2 i7
              have hrN : rN = 16 + rb.length := by rw [HR.out] at i2; simp only [Prod.mk.injEq] at i2; exact i2.2.2.1
              have hrn1 : fi + rN ≤ 100000000 := by omega
              have hrn2 : ps.length ≤ 100000000 := by omega
              have hcn2 : cn ≤ 100000000 := by omega
              have HN := Lib.hid hnum
              have HRN := Lib.hid hrN
              have HXL := Lib.hid hxl
              have HXS := Lib.hid hxs
              have HHI := Lib.hid hiP
              have HHZ := Lib.hid hzP
              have HHS := Lib.hid hsP
              have HHB := Lib.hid hbP
              have HS1 := Lib.hid hs1
              have f0 := frozen_of_row _ _ 0 _ _ hA8.r1
              have f1 := frozen_of_row _ _ 1 _ _ hA8.r1
              have f2 := frozen_of_row _ _ 2 _ _ hA8.r1
              have f3 := frozen_of_row _ _ 3 _ _ hA8.r1
              have hne : ((rL : Int) != (rL : Int)) = false := by simp
              have hnn : ((0 : Int) != 0) = false := by simp
              clear i1 i2 i3 i7 i8 i9 hnum hrN hxl hxs hiP hzP hsP hbP hs1
              go_wp2_with (first
                | (at_builtin; refine wpList_append_own_at _ rfl (.tmp 53) (.tmp 58) 58 rfl (w.heap.size + 2) 64 iP _ 3 40 Try.underlying58 HHI.out HHZ.out HHS.out HHB.out rfl (by decide) _ ps.length _ rfl (Only.rows' (Only.of_below ((Below.refl _ _).alloc (Nat.le_refl _) _)) hrow) ⟨w8.heap.size, 0, none⟩ 1 1 (plv (fi, rL, .slice A6 n6 c6)) rfl rfl (World.news_of_block (heap_alloc_new w8 _)) (by intro u hu; simp [plv] at hu; rcases hu with rfl | rfl | rfl <;> rfl) (by simp only [maxLen]; omega) (by omega) (by simp; omega) ?_; intro v9 w9 hrow9 hg9 _ hat9
                   have hO9 : Only (fun j => w.heap.size + 2 ≤ j) w8 w9 := Only.trans (R' := fun j => some j = (Value.ownBlock _)) (Only.of_below ((Below.refl _ _).alloc (Nat.le_refl _) _)) (Only.of_grown hg9 fun j h => h.symm) (fun j _ h => own_low hrow h.symm)
                   have r9 := hO9.row (g := w.heap.size + 1) (by omega) hA8.r1
                   have k0 := cell_of_row _ _ 0 _ _ _ r9
                   have k1 := cell_of_row _ _ 1 _ _ _ r9
                   have k2 := cell_of_row _ _ 2 _ _ _ r9
                   have k3 := cell_of_row _ _ 3 _ _ _ r9
                   have l0 := frozen_of_row _ _ 0 _ _ r9
                   have l1 := frozen_of_row _ _ 1 _ _ r9
                   have l2 := frozen_of_row _ _ 2 _ _ r9
                   have l3 := frozen_of_row _ _ 3 _ _ r9
                   simp [scv] at k0 k1 k2 k3))
              have hPl := Plcs.push (rb := rb) HXL.out hrow HXS.out (ho8.mono (by omega)) hg9 hrow9
              have hO4 := only_set4 w9 (w.heap.size + 1) (.int .i64 ((cn : Int) + 1)) (.int .i64 ((fi : Int) + (rN : Int))) (.int .i64 ((rL : Int) + 1)) (.int .u32 (rS : Int))
              have hA9 := hA8.step hl HS1.out (hPl.only hO4 (fun j hj => by omega)) (Only.trans (only_le (R' := fun j => w.heap.size + 1 ≤ j) hO9 (fun j _ hj => by omega)) hO4 (fun j _ hj => by omega))
                (set4 w9 (w.heap.size + 1) cn fi rL sd (cn + 1) (fi + rN) (rL + 1) rS 0 r9 _ _ _ _ (by omega) (by omega) (by omega) rfl)
              refine ⟨⟨_, _, 0, hA9⟩, ?_⟩
              rw [hA9.meas, hA.meas, if_pos rfl]
              simp only
              have := HRN.out
              omega
            · have hlb : ((rL : Int) != (nx : Int)) = true := by simp; omega
              have hs1 : scan1 b ⟨cn, fi, nx, sd⟩ = .inr 6 := by
                rw [scan1, if_neg (by simp only; omega)]
                simp only [HR.out, if_neg hlsn]
              have hA9 := hA8.why hs1 (by omega) (by omega)
              go_wp2_with fail
              refine ⟨⟨ps, ⟨cn, fi, nx, sd⟩, 6, hA9⟩, ?_⟩
              refine Nat.lt_of_le_of_lt (Nat.le_of_eq hA9.meas) ?_
              rw [hA.meas, if_neg (by omega), if_pos rfl]
              omega
          · have hrcb : ((rc : Int) != 0) = true := by simp; omega
            have hs1 : scan1 b ⟨cn, fi, nx, sd⟩ = .inr (whyN rc) := by
              obtain ⟨k, rfl⟩ : ∃ k, rc = k + 1 := ⟨rc - 1, by omega⟩
              rw [scan1, if_neg (by simp only; omega)]
              simp only [HR.out]
            have hw6 : whyN rc ≤ 6 ∧ whyN rc ≠ 0 := by unfold whyN; split <;> (try split) <;> (try split) <;> omega
            have hA9 := hA8.why hs1 hw6.1 hw6.2
            go_wp2_with (first
              | (go_at_call 50; refine (rwhy_any rc w8).mono ?_; rintro e w9 ⟨rfl, rfl⟩))
            refine ⟨⟨ps, ⟨cn, fi, nx, sd⟩, whyN rc, hA9⟩, ?_⟩
            rw [hA9.meas, hA.meas, if_neg hw6.2, if_pos rfl]
            omega
    · have hyb : ((y : Int) == 0) = false := by simp; omega
      go_wp2_with (refine wpList_store_row rfl _ (.tmp 8) (.tmp 88) rfl _ #[.int .i64 cn, .int .i64 fi, .int .i64 nx, .int .u32 sd, .int .i64 y] rfl rfl _ _ hA.r0 (by kernel_rfl) rfl (by kernel_rfl) ?_)
      refine hA.done hy ?_ ?_ ?_ ?_ <;> rfl
end Go.Proofs.Ytdfabjkffjacoaa
