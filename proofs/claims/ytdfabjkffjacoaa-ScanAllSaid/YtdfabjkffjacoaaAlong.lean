/- Walks: scan.along, and its iterator's contract. -/
import Derived.Test.YtdfabjkffjacoaaRAll
namespace Go.Proofs.Ytdfabjkffjacoaa
open Go.RowKit

/-- what a scan hands out: the state, why, the record -/
def itemsL (b : List UInt8) : Nat → Sc → List (Sc × Nat × Nat × List UInt8)
  | 0, s => [(s, 1, 0, [])]
  | k + 1, s => match scan1 b s with
    | .inr y => [(s, y, 0, [])]
    | .inl (L, d, s') => (s, 0, L, d) :: itemsL b k s'
theorem itemsL_fuel (b : List UInt8) : ∀ (k j : Nat) (s : Sc), b.length < k + s.fin → k ≤ j → itemsL b j s = itemsL b k s
  | 0, j, s, h, _ => by
    cases j with
    | zero => rfl
    | succ j =>
      have e : scan1 b s = .inr 1 := by rw [scan1, if_pos (by omega)]
      simp only [itemsL, e]
  | k + 1, j, s, h, hj => by
    obtain ⟨j, rfl⟩ : ∃ j', j = j' + 1 := ⟨j - 1, by omega⟩
    simp only [itemsL]
    cases hs : scan1 b s with
    | inr y => rfl
    | inl x =>
      obtain ⟨L, d, s'⟩ := x
      obtain ⟨_, _, _, _, _, _, _, h8, _⟩ := scan1_inl hs
      have h9 : s'.fin = s.fin + (16 + d.length) := by rw [h8]
      simp only
      rw [itemsL_fuel b k j s' (by omega) (by omega)]
/-- the items and the scan -/
theorem itemsL_scan (b : List UInt8) : ∀ (k : Nat) (s : Sc), (itemsL b k s).map (fun x => (x.1.fin, x.2.2.1, x.2.2.2)) = (scanL b k s).1 ++ [((scanL b k s).2.1.fin, 0, [])] ∧
    (itemsL b k s).map (fun x => x.2.1) = List.replicate (scanL b k s).1.length 0 ++ [(scanL b k s).2.2] ∧ (itemsL b k s).length = (scanL b k s).1.length + 1 ∧ (itemsL b k s)[(scanL b k s).1.length]? = some ((scanL b k s).2.1, (scanL b k s).2.2, 0, [])
  | 0, s => by simp [itemsL, scanL]
  | k + 1, s => by
    simp only [itemsL, scanL]
    cases hs : scan1 b s with
    | inr y => simp
    | inl x =>
      obtain ⟨L, d, s'⟩ := x
      obtain ⟨h1, h2, h3, h4⟩ := itemsL_scan b k s'
      simp only [List.map_cons, List.length_cons, h1, h2, h3]
      refine ⟨rfl, ?_, trivial, ?_⟩
      · simp [List.replicate_succ]
      · simpa using h4

def encS (x : Sc × Nat × Nat × List UInt8) (v : Value) : Array Value := #[.agg (scv x.1 x.2.1), .agg #[.int .i64 x.2.2.1, v]]
def datS (x : Sc × Nat × Nat × List UInt8) : List UInt8 := x.2.2.2

theorem along_any (A : Option Addr) (n c : Nat) (base : Int) (seed : Int) (w : World) :
    Calls Try.prog 51 #[.slice A n c, .int .i64 base, .int .u32 seed] w fun e w' =>
      e = .returned (.func (.func 61) #[] #[.pointer (some ⟨w.heap.size + 1, 0, none⟩), .pointer (some ⟨w.heap.size + 2, 0, none⟩), .pointer (some ⟨w.heap.size, 0, none⟩)]) ∧
      w' = ((w.alloc (.cells #[.slice A n c] 31)).alloc (.cells #[.int .i64 base] 2)).alloc (.cells #[.int .u32 seed] 35) := by
  go_enter Try.func51, Try.ntmps51
  go_wp2
  go_ret
  exact ⟨rfl, rfl⟩

/-- the iterator's state between two rounds -/
structure SA (W wr : World) (J : Nat → World → Prop) (p3 : Nat) (A : Option Addr) (n c : Nat) (b : List UInt8) (s0 : Sc) (i : Nat) (s : Sc) : Prop where
  it : ∃ pre, itemsL b (n + 1) s0 = pre ++ itemsL b (n + 1) s ∧ pre.length = i
  j0 : ∃ W0, J i W0 ∧ Only (pr W.heap.size 1) W0 wr ∧ W.heap.size ≤ W0.heap.size
  r : wr.heap[W.heap.size]? = some (.cells (scv s 0) 57 (0, 0))
  size : W.heap.size + 1 ≤ wr.heap.size
  cb : wr.cell? ⟨p3, 0, none⟩ = some (.slice A n c)
  rd : Rd wr A (bv b)
  fin : s.fin ≤ n
  nxt : s.nxt ≤ 9223372036854775807
  sd : s.sd < 4294967296
  cnt : s.cnt * 16 ≤ s.fin

/-- what the iterator has come to -/
def FinA (W : World) (J Jx : Nat → World → Prop) (N : Nat) (W' : World) : Prop :=
  ∃ W0, Only (pr W.heap.size 1) W0 W' ∧ (J N W0 ∨ ∃ i, 0 < i ∧ i ≤ N ∧ Jx i W0)
/-- the caller's rounds -/
abbrev RoundsA (W : World) (J Jx : Nat → World → Prop) (l p3 n : Nat) (A : Option Addr) (xs : List (Sc × Nat × Nat × List UInt8)) : Prop :=
  ∀ i W0 W1 A' m cc (hi : i < xs.length), J i W0 → Only (pr W.heap.size 1) W0 W1 → W.heap.size + 1 ≤ W1.heap.size → W.heap.size ≤ W0.heap.size → Own W0.heap.size W1 A' m cc (datS xs[i]) → (∀ ad, A' = some ad → W.heap.size + 1 ≤ ad.block) →
      YieldAt Fence.wide 3 Try.prog l (encS xs[i] (.slice A' m cc)) W1 fun e W' =>
        (e = .returned (.bool true) ∧ J (i + 1) W' ∧ KeepsR (fun j => pr W.heap.size 1 j ∨ (j = p3 ∨ (0 < n ∧ ∃ ad, A = some ad ∧ j = ad.block))) W1 W') ∨ (e = .returned (.bool false) ∧ Jx (i + 1) W' ∧ KeepsR (fun j => pr W.heap.size 1 j ∨ (j = p3 ∨ (0 < n ∧ ∃ ad, A = some ad ∧ j = ad.block))) W1 W')
def EndsA (W : World) (J Jx : Nat → World → Prop) (N : Nat) (e : Ending) (W' : World) : Prop := ∃ t, e = .returned (.bool t) ∧ FinA W J Jx N W'
theorem only_reflpr (W : World) (b c : Nat) : Only (pr b c) W W := Only.refl W
section
variable {W w8 : World} {J Jx : Nat → World → Prop} {l p3 n c i : Nat} {A : Option Addr} {b : List UInt8} {s0 s : Sc}
theorem SA.item (hA : SA W w8 J p3 A n c b s0 i s) : ∃ x xs', itemsL b (n + 1) s = x :: xs' ∧ ∃ hi : i < (itemsL b (n + 1) s0).length, (itemsL b (n + 1) s0)[i] = x ∧ (itemsL b (n + 1) s0).length = i + 1 + xs'.length := by
  obtain ⟨pre, h1, h2⟩ := hA.it
  have hne : ∃ x xs', itemsL b (n + 1) s = x :: xs' := by
    unfold itemsL
    split
    · exact ⟨_, _, rfl⟩
    · exact ⟨_, _, rfl⟩
  obtain ⟨x, xs', hx⟩ := hne
  refine ⟨x, xs', hx, ?_, ?_, ?_⟩
  · rw [h1, hx]; simp; omega
  · subst h2; simp [h1, hx]
  · rw [h1, hx]; simp; omega
theorem SA.last (hA : SA W w8 J p3 A n c b s0 i s) {y : Nat} (hs : scan1 b s = .inr y) (HY : RoundsA W J Jx l p3 n A (itemsL b (n + 1) s0)) {w9 : World} (hO : Only (pr W.heap.size 1) w8 w9) :
    YieldAt Fence.wide 3 Try.prog l #[.agg (scv s y), .agg #[.int .i64 0, .slice none 0 0]] w9 (EndsA W J Jx (itemsL b (n + 1) s0).length) := by
  obtain ⟨x, xs', hx, hi, hxi, hlen⟩ := hA.item
  obtain ⟨W0, hj, hO0, hz⟩ := hA.j0
  have e : itemsL b (n + 1) s = [(s, y, 0, [])] := by simp only [itemsL, hs]
  rw [e] at hx
  cases hx
  have h := HY i W0 w9 none 0 0 hi hj (hO0.trans hO (fun _ _ h => h)) (Nat.le_trans hA.size hO.size) hz (by rw [hxi]; exact Own.nil _ _) (fun ad h => by cases h)
  rw [hxi] at h
  refine YieldAt.mono h ?_
  rintro e W' (⟨rfl, hJ, _⟩ | ⟨rfl, hJ, _⟩)
  · exact ⟨true, rfl, W', Only.refl _, .inl (by rw [hlen]; exact hJ)⟩
  · exact ⟨false, rfl, W', Only.refl _, .inr ⟨i + 1, by omega, by rw [hlen]; simp, hJ⟩⟩
/-- behind a round that goes on -/
structure SB (W : World) (J : Nat → World → Prop) (p3 : Nat) (A : Option Addr) (n c : Nat) (b : List UInt8) (i : Nat) (s : Sc) (W' : World) : Prop where
  j0 : J (i + 1) W'
  r : W'.heap[W.heap.size]? = some (.cells (scv s 0) 57 (0, 0))
  size : W.heap.size + 1 ≤ W'.heap.size
  cb : W'.cell? ⟨p3, 0, none⟩ = some (.slice A n c)
  rd : Rd W' A (bv b)
theorem SA.keep (hA : SA W w8 J p3 A n c b s0 i s) {w9 : World} (hb : Below w8.heap.size w8 w9) : SA W w9 J p3 A n c b s0 i s := by
  obtain ⟨W0, hj, hO0, hz⟩ := hA.j0
  exact ⟨hA.it, ⟨W0, hj, hO0.trans (Only.of_below (R := fun _ => False) hb) (fun _ _ h => h.elim), hz⟩, (hb.block _ (Array.getElem?_eq_some_iff.1 hA.r).1).trans hA.r, Nat.le_trans hA.size hb.size, keep_cell hb hA.cb, hA.rd.keep hb, hA.fin, hA.nxt, hA.sd, hA.cnt⟩
theorem SA.next {wr : World} (hl : b.length = n) (hA0 : SA W wr J p3 A n c b s0 i s) (hb8 : Below wr.heap.size wr w8) {L : Nat} {d : List UInt8} {s' : Sc} (hs : scan1 b s = .inl (L, d, s')) (HY : RoundsA W J Jx l p3 n A (itemsL b (n + 1) s0)) {A6 : Option Addr} {m cc : Nat}
    (ho : Own wr.heap.size w8 A6 m cc d) :
    YieldAt Fence.wide 3 Try.prog l #[.agg (scv s 0), .agg #[.int .i64 L, .slice A6 m cc]] w8 fun e W' => (e = .returned (.bool true) ∧ SB W J p3 A n c b i s W') ∨ (e = .returned (.bool false) ∧ FinA W J Jx (itemsL b (n + 1) s0).length W') := by
  have hA := hA0.keep hb8
  obtain ⟨x, xs', hx, hi, hxi, hlen⟩ := hA.item
  obtain ⟨W0, hj, hO0, hz⟩ := hA0.j0
  have hO0' : Only (pr W.heap.size 1) W0 w8 := hO0.trans (Only.of_below (R := fun _ => False) hb8) (fun _ _ h => h.elim)
  have e : itemsL b (n + 1) s = (s, 0, L, d) :: itemsL b n s' := by simp only [itemsL, hs]
  rw [e] at hx
  cases hx
  have h := HY i W0 w8 A6 m cc hi hj hO0' hA.size hz (by rw [hxi]; exact ho.mono hO0.size) (fun ad h => Nat.le_trans hA0.size (ho.lt ad h).1)
  rw [hxi] at h
  refine YieldAt.mono h ?_
  rintro e W' (⟨rfl, hJ1, hK⟩ | ⟨rfl, hJ1, _⟩)
  · refine .inl ⟨rfl, hJ1, (hK.same _ (.inl ⟨Nat.le_refl _, by omega⟩)).trans hA.r, Nat.le_trans hA.size hK.size, ?_, ?_⟩
    · exact (World.cell?_of_block (hK.same p3 (.inr (.inl rfl)))).trans hA.cb
    · intro j u hj
      obtain ⟨ad, ha, hc⟩ := hA.rd j u hj
      exact ⟨ad, ha, (World.cell?_of_block (hK.same _ (.inr (.inr ⟨by have := (List.getElem?_eq_some_iff.1 hj).1; rw [bv_length] at this; omega, ad, ha, by rw [block_of_add]⟩)))).trans hc⟩
  · exact .inr ⟨rfl, W', Only.refl _, .inr ⟨i + 1, by omega, by rw [hlen]; simp, hJ1⟩⟩
theorem SA.meas {W wr : World} {s : Sc} {y : Nat} (hr : wr.heap[W.heap.size]? = some (.cells (scv s y) 57 (0, 0))) : n - (intAt wr W.heap.size 1).toNat = n - s.fin := by
  have h1 : intAt wr W.heap.size 1 = (s.fin : Int) := intAt_of (k := .i64) (cell_of_row _ _ 1 _ _ _ hr)
  rw [h1]
  simp
theorem SA.turn (hA : SA W w8 J p3 A n c b s0 i s) {L : Nat} {d : List UInt8} {s' : Sc} (hs : scan1 b s = .inl (L, d, s')) (hl : b.length = n) {W' W2 : World} (hB : SB W J p3 A n c b i s W') (hO : Only (fun j => j = W.heap.size) W' W2)
    (hr : W2.heap[W.heap.size]? = some (.cells (scv s' 0) 57 (0, 0))) (hp : p3 < W.heap.size) (hAd : ∀ ad, A = some ad → ad.block < W.heap.size) : SA W W2 J p3 A n c b s0 (i + 1) s' := by
  obtain ⟨i1, i2, i3, i4, i5, i6, i7, i8, i9⟩ := scan1_inl hs
  have hc := hA.cnt
  have hsl := fsum_lt s.sd L d
  obtain ⟨pre, h1, h2⟩ := hA.it
  subst i8
  refine ⟨⟨pre ++ [(s, 0, L, d)], ?_, by simp [h2]⟩, ⟨W', hB.j0, only_le hO (fun j _ h => by cases h; exact ⟨Nat.le_refl _, by omega⟩), Nat.le_trans (Nat.le_succ _) hB.size⟩, hr, Nat.le_trans hB.size hO.size, hO.cell (by simp only; omega) hB.cb, hO.rd (fun ad ha h => by have := hAd ad ha; omega) hB.rd, by simp only; omega, by simp only; omega, hsl, by simp only; omega⟩
  have hf := itemsL_fuel b n (n + 1) ⟨s.cnt + 1, s.fin + (16 + d.length), s.nxt + 1, fsum s.sd L d⟩ (by simp only; omega) (by omega)
  rw [hf, h1]
  conv =>
    lhs
    simp only [itemsL, hs]
  simp
end

set_option maxRecDepth 100000 in
set_option maxHeartbeats 8000000 in
theorem along1_seq (b : List UInt8) (A : Option Addr) (n c : Nat) (base seed : Nat) (p1 p2 p3 : Nat) (w : World) (hl : b.length = n) (hn : n ≤ 100000000) (hc : n ≤ c) (hr : Rd w A (bv b)) (hsd : seed < 4294967296)
    (_g1 : 1 ≤ base) (g2 : base ≤ 9223372036854775807) (c1 : w.cell? ⟨p1, 0, none⟩ = some (.int .i64 base)) (c2 : w.cell? ⟨p2, 0, none⟩ = some (.int .u32 seed)) (c3 : w.cell? ⟨p3, 0, none⟩ = some (.slice A n c)) :
    SeqP Try.prog 61 #[.pointer (some ⟨p1, 0, none⟩), .pointer (some ⟨p2, 0, none⟩), .pointer (some ⟨p3, 0, none⟩)] encS datS 1 (fun j => j = p3 ∨ (0 < n ∧ ∃ ad, A = some ad ∧ j = ad.block)) (itemsL b (n + 1) ⟨0, 0, base, seed⟩) w := by
  intro l J Jx W hW hY h0
  have d1 := keep_cell hW c1
  have d2 := keep_cell hW c2
  have d3 := keep_cell hW c3
  have hrW := hr.keep hW
  clear c1 c2 c3 hr
  go_enter Try.func61, Try.ntmps61
  refine (wpIn_wide (n := 4)).1 ?_
  have p0 : (W.alloc (Obj.cells #[.int .i64 0, .int .i64 0, .int .i64 base, .int .u32 seed, .int .i64 0] 57)).heap[W.heap.size]? = some (.cells (scv ⟨0, 0, base, seed⟩ 0) 57 (0, 0)) := heap_alloc_new W _
  have hba : Below W.heap.size W (W.alloc (Obj.cells #[.int .i64 0, .int .i64 0, .int .i64 base, .int .u32 seed, .int .i64 0] 57)) := (Below.refl _ _).alloc (Nat.le_refl _) _
  have hz : W.heap.size + 1 ≤ (W.alloc (Obj.cells #[.int .i64 0, .int .i64 0, .int .i64 base, .int .u32 seed, .int .i64 0] 57)).heap.size := by simp
  have HY := Lib.hid hY
  clear hY
  have hbp3 : p3 < W.heap.size := World.block_lt_of_cell? _ _ d3
  have hbA : ∀ k (ad : Addr), b[0]? = some k → A = some ad → ad.block < W.heap.size := fun k ad hk ha => hrW.lt (fun e => by cases b with | nil => cases hk | cons x t => simp [bv] at e) ad ha
  gi_wp2
  generalize (W.alloc (Obj.cells #[.int .i64 0, .int .i64 0, .int .i64 base, .int .u32 seed, .int .i64 0] 57)) = W0 at *
  gi_loopw [6, 7, 8, 9] (fun _ _ _ _ wr => ∃ (i : Nat) (s : Sc), SA W wr J p3 A n c b ⟨0, 0, base, seed⟩ i s) (fun _ _ _ _ wr => n - (intAt wr W.heap.size 1).toNat)
  case atStart => exact ⟨0, ⟨0, 0, base, seed⟩, ⟨[], rfl, rfl⟩, ⟨W, h0, Only.of_below hba, Nat.le_refl _⟩, p0, hz, keep_cell hba d3, hrW.keep hba, by simp, by simp only; omega, hsd, by simp⟩
  case round =>
    obtain ⟨i, s, hA⟩ := hrel
    obtain ⟨cn, fi, nx, sd⟩ := s
    have c0 := cell_of_row _ _ 0 _ _ _ hA.r
    have c1 := cell_of_row _ _ 1 _ _ _ hA.r
    have c2 := cell_of_row _ _ 2 _ _ _ hA.r
    have c3 := cell_of_row _ _ 3 _ _ _ hA.r
    have c4 := cell_of_row _ _ 4 _ _ _ hA.r
    simp [scv] at c0 c1 c2 c3 c4
    have hcb := hA.cb
    have hfi := hA.fin
    simp only at hfi
    by_cases hlt : fi < n
    · have hlti : decide ((fi : Int) < (n : Int)) = true := by simp; omega
      have hlti' : (fi : Int) < (n : Int) := by omega
      have hbig := hA.size
      have hsd' := hA.sd
      simp only at hsd'
      have hrw := hA.rd
      obtain ⟨ad, hAe⟩ : ∃ ad, A = some ad := by obtain ⟨ad, h, _⟩ := hrw.byte (k := 0) (by omega); exact ⟨ad, h⟩
      subst hAe
      have hcf : ¬ c = fi := by omega
      have hfn : (fi : Int) ≤ (n : Int) := by omega
      have hrd := rd_drop (A2 := some (ad.add fi)) hrw (by rw [if_neg hcf]; rfl) hl hc
      have hdl : (b.drop fi).length = n - fi := by rw [List.length_drop]; omega
      generalize hre : fread sd (b.drop fi) = r at *
      obtain ⟨rL, rb, rN, rS, rc⟩ := r
      have HR := Lib.hid hre
      have hna : W.heap.size ≠ wr.heap.size := by omega
      have hnp : p3 ≠ wr.heap.size := by omega
      have HL := Lib.hid hl
      have HD := Lib.hid hdl
      clear hre hl hdl
      gi_wp2
      refine wpIn_wide.2 ?_
      go_region_held3 (fun w' => w'.cell? ⟨W.heap.size, 1, none⟩ = some (.int .i64 fi) ∧ w'.cell? ⟨W.heap.size, 3, none⟩ = some (.int .u32 sd) ∧ w'.cell? ⟨p3, 0, none⟩ = some (.slice (some ad) n c)) (first | exact ⟨c1, c3, hcb⟩ | exact ⟨keep_cell (below_alloc_drew wr _) c1, keep_cell (below_alloc_drew wr _) c3, keep_cell (below_alloc_drew wr _) hcb⟩ | exact ⟨keep_cell hb6 c1, keep_cell hb6 c3, keep_cell hb6 hcb⟩ | exact ⟨keep_cell hb6 (keep_cell (below_alloc_drew wr _) c1), keep_cell hb6 (keep_cell (below_alloc_drew wr _) c3), keep_cell hb6 (keep_cell (below_alloc_drew wr _) hcb)⟩ | exact ⟨keep_cell ((Below.refl _ _).alloc (Nat.le_refl _) _) (keep_cell hb6 c1), keep_cell ((Below.refl _ _).alloc (Nat.le_refl _) _) (keep_cell hb6 c3), keep_cell ((Below.refl _ _).alloc (Nat.le_refl _) _) (keep_cell hb6 hcb)⟩ | exact ⟨keep_set2 hna (keep_cell hb6 (keep_cell (below_alloc_drew wr _) c1)), keep_set2 hna (keep_cell hb6 (keep_cell (below_alloc_drew wr _) c3)), keep_set2 hnp (keep_cell hb6 (keep_cell (below_alloc_drew wr _) hcb))⟩)
        (first
          | (go_at_call 21; refine (fread_any sd hsd' (b.drop fi) (n - fi) HD.out (by omega) (some (ad.add fi)) (c - fi) (by omega) wr.drew hrd).mono ?_; rw [HR.out]; rintro e w6 ⟨A6, n6, c6, rfl, ho6, hb6⟩)
          | (go_at_call 21; refine (fread_any sd hsd' (b.drop fi) (n - fi) HD.out (by omega) (some (ad.add fi)) (c - fi) (by omega) _ (hrd.keep (below_alloc_drew wr _))).mono ?_; rw [HR.out]; rintro e w6 ⟨A6, n6, c6, rfl, ho6, hb6⟩
             have hz6 : w6.heap[wr.heap.size]? = some (.cells #[.int .i64 0, .slice none 0 0] 34 (0, 0)) := (hb6.block _ (by show wr.heap.size < (wr.alloc _).heap.size; simp)).trans (heap_alloc_new wr _)
             have z0 := cell_of_row _ _ 0 _ _ _ hz6
             have z1 := cell_of_row _ _ 1 _ _ _ hz6
             have y0 := frozen_of_row _ _ 0 _ _ hz6
             have y1 := frozen_of_row _ _ 1 _ _ hz6))
      focus
        obtain ⟨p8, hb8, ho8, hg8⟩ := got_a (rL : Int) hb6 ho6
        obtain ⟨g8, hge⟩ : ∃ x, x = w6.heap.size := ⟨_, rfl⟩
        rw [← hge] at p8 hg8 ⊢
        generalize (w6.alloc (.cells #[.int .i64 rL, .slice A6 n6 c6] 34)) = w8 at p8 hb8 ho8 ⊢
        clear hge hb6 ho6
      rotate_left
      focus
        obtain ⟨p8, hb8, ho8, hg8⟩ := got_b (rL : Int) rfl hb6 ho6
        obtain ⟨g8, hge⟩ : ∃ x, x = wr.heap.size := ⟨_, rfl⟩
        generalize ((w6.setCell ⟨wr.heap.size, 0, none⟩ (.int .i64 rL)).setCell ⟨wr.heap.size, 1, none⟩ (.slice A6 n6 c6)) = w8 at p8 hb8 ho8 ⊢
        rw [← hge] at p8 ⊢
        have hg8 : wr.heap.size ≤ g8 := Nat.le_of_eq hge.symm
        clear hge hz6 z0 z1 y0 y1 hb6 ho6
      all_goals
        have hA8 := hA.keep hb8
        have e0 := cell_of_row _ _ 0 _ _ _ hA8.r
        have e1 := cell_of_row _ _ 1 _ _ _ hA8.r
        have e2 := cell_of_row _ _ 2 _ _ _ hA8.r
        have e3 := cell_of_row _ _ 3 _ _ _ hA8.r
        have e4 := cell_of_row _ _ 4 _ _ _ hA8.r
        have f4 := frozen_of_row _ _ 4 _ _ hA8.r
        simp [scv] at e0 e1 e2 e3 e4
        have q0 := cell_of_row _ _ 0 _ _ _ p8
        have q1 := cell_of_row _ _ 1 _ _ _ p8
        clear c0 c1 c2 c3 c4 hrw hrd hna hnp hcb
        by_cases hrc : rc = 0
        · subst hrc
          by_cases hlsn : rL = nx
          · subst hlsn
            have hs1 : scan1 b ⟨cn, fi, rL, sd⟩ = .inl (rL, rb, ⟨cn + 1, fi + rN, rL + 1, rS⟩) := by
              rw [scan1, if_neg (by have := HL.out; simp only; omega)]
              simp only [HR.out, if_true]
            obtain ⟨i1, i2, i3, i4, i5, i6, i7, i8, i9⟩ := scan1_inl hs1
            have hcnt := hA8.cnt
            simp only at hcnt i1 i2 i7
            have hrN : rN = 16 + rb.length := by rw [HR.out] at i2; simp only [Prod.mk.injEq] at i2; exact i2.2.2.1
            have hrn1 : fi + rN ≤ 100000000 := by have := HL.out; omega
            have hrn2 : 16 ≤ rN := by omega
            have hcn2 : cn ≤ 100000000 := by omega
            have HS1 := Lib.hid hs1
            have hne : ((rL : Int) != (rL : Int)) = false := by simp
            have hnn : ((0 : Int) != 0) = false := by simp
            have hY9 := SA.next HL.out hA hb8 hs1 HY.out ho8
            clear i1 i2 i3 i7 i8 i9 hrN hs1
            obtain ⟨fn, tmps, assign, body, hy, hR⟩ := hY9
            dsimp only [scv] at hy
            rw [show ((0 : Nat) : Int) = 0 from rfl] at hy
            gi_wp2
            refine hR.mono ?_
            rintro e W' (⟨rfl, hB⟩ | ⟨rfl, hF⟩)
            · have k0 := cell_of_row _ _ 0 _ _ _ hB.r
              have k1 := cell_of_row _ _ 1 _ _ _ hB.r
              have k2 := cell_of_row _ _ 2 _ _ _ hB.r
              have k3 := cell_of_row _ _ 3 _ _ _ hB.r
              have l0 := frozen_of_row _ _ 0 _ _ hB.r
              have l1 := frozen_of_row _ _ 1 _ _ hB.r
              have l2 := frozen_of_row _ _ 2 _ _ hB.r
              have l3 := frozen_of_row _ _ 3 _ _ hB.r
              simp [scv] at k0 k1 k2 k3
              have hO4 := only_set4 W' W.heap.size (.int .i64 ((cn : Int) + 1)) (.int .i64 ((fi : Int) + (rN : Int))) (.int .i64 ((rL : Int) + 1)) (.int .u32 (rS : Int))
              have s4 := set4 W' W.heap.size cn fi rL sd (cn + 1) (fi + rN) (rL + 1) rS 0 hB.r ((cn : Int) + 1) ((fi : Int) + (rN : Int)) ((rL : Int) + 1) (rS : Int) (by omega) (by omega) (by omega) rfl
              have hA9 := hA8.turn HS1.out HL.out hB hO4 s4 hbp3 (fun ad ha => hbA _ ad (List.getElem?_eq_getElem (show 0 < b.length by have := HL.out; omega)) ha)
              clear hy hR
              gi_wp2
              refine ⟨⟨_, _, hA9⟩, ?_⟩
              rw [SA.meas (n := n) hA9.r, SA.meas (n := n) hA.r]
              simp only
              omega
            · gi_wp2
              refine bodyPost_ret (results_none rfl _ _ _) rfl ?_
              exact ⟨⟨_, rfl⟩, hF⟩
          · have hlb : ((rL : Int) != (nx : Int)) = true := by simp; omega
            have hs1 : scan1 b ⟨cn, fi, nx, sd⟩ = .inr 6 := by
              rw [scan1, if_neg (by have := HL.out; simp only; omega)]
              simp only [HR.out, if_neg hlsn]
            have hY9 := hA8.last hs1 HY.out (only_le (only_set w8 W.heap.size 4 (.int .i64 6)) (fun j _ h => by cases h; exact ⟨Nat.le_refl _, by omega⟩))
            obtain ⟨fn, tmps, assign, body, hy, hR⟩ := hY9
            dsimp only [scv] at hy
            rw [show ((6 : Nat) : Int) = 6 from rfl] at hy
            clear hs1
            gi_wp2
            refine hR.mono ?_
            rintro e W' ⟨t, rfl, hF⟩
            gi_wp2
            refine bodyPost_ret (results_none rfl _ _ _) rfl ?_
            exact ⟨⟨_, rfl⟩, hF⟩
        · have hrcb : ((rc : Int) != 0) = true := by simp; omega
          have hs1 : scan1 b ⟨cn, fi, nx, sd⟩ = .inr (whyN rc) := by
            obtain ⟨k, rfl⟩ : ∃ k, rc = k + 1 := ⟨rc - 1, by omega⟩
            rw [scan1, if_neg (by have := HL.out; simp only; omega)]
            simp only [HR.out]
          have hw6 : whyN rc ≤ 6 ∧ whyN rc ≠ 0 := by unfold whyN; split <;> (try split) <;> (try split) <;> omega
          have hwb : ((whyN rc : Int) != 0) = true := by simp; omega
          have hY9 := hA8.last hs1 HY.out (only_le (only_set w8 W.heap.size 4 (.int .i64 (whyN rc : Nat))) (fun j _ h => by cases h; exact ⟨Nat.le_refl _, by omega⟩))
          obtain ⟨fn, tmps, assign, body, hy, hR⟩ := hY9
          dsimp only [scv] at hy
          clear hs1
          gi_wp2_with (refine ⟨trivial, ?_⟩; gi_at_call 62; refine (callsIn_wide.2 (why_any rc w8)).mono ?_; rintro e w9 ⟨rfl, rfl⟩)
          refine hR.mono ?_
          rintro e W' ⟨t, rfl, hF⟩
          gi_wp2
          refine bodyPost_ret (results_none rfl _ _ _) rfl ?_
          exact ⟨⟨_, rfl⟩, hF⟩
    · have hlti : decide ((fi : Int) < (n : Int)) = false := by simp; omega
      have hlti' : ¬ (fi : Int) < (n : Int) := by omega
      have hs1 : scan1 b ⟨cn, fi, nx, sd⟩ = .inr 1 := by rw [scan1, if_pos (by simp only; omega)]
      have hY9 := hA.last hs1 HY.out (only_le (only_set wr W.heap.size 4 (.int .i64 1)) (fun j _ h => by cases h; exact ⟨Nat.le_refl _, by omega⟩))
      obtain ⟨fn, tmps, assign, body, hy, hR⟩ := hY9
      dsimp only [scv] at hy
      rw [show ((1 : Nat) : Int) = 1 from rfl] at hy
      have f4 := frozen_of_row _ _ 4 _ _ hA.r
      clear hs1
      gi_wp2
      refine hR.mono ?_
      rintro e W' ⟨t, rfl, hF⟩
      gi_wp2
      go_end0
      exact ⟨⟨_, rfl⟩, hF⟩
end Go.Proofs.Ytdfabjkffjacoaa
