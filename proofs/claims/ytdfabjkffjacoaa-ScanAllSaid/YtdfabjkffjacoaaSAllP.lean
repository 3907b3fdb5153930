/- Words for the walk of flumelaw7.ScanAll: what lies below a block, as it is read. -/
import Derived.Test.YtdfabjkffjacoaaKeepP
import Derived.Laws.StructEq
namespace Go.Proofs.Ytdfabjkffjacoaa
open Go.RowKit

/-- placed records that lie from B on, below K, as they are read -/
structure PV (B K : Nat) (V : World) (D : Option Addr) (ps : List (Nat × Nat × List UInt8)) : Prop where
  dlt : ∀ ad, D = some ad → B ≤ ad.block ∧ ad.block < K
  each : ∀ i (hi : i < ps.length), ∃ ad A c, D = some ad ∧ V.cell? (ad.add (i * 3)) = some (.int .i64 ps[i].1) ∧ V.cell? ⟨(ad.add (i * 3)).block, (ad.add (i * 3)).off + 1, none⟩ = some (.int .i64 ps[i].2.1) ∧
      V.cell? ⟨(ad.add (i * 3)).block, (ad.add (i * 3)).off + 2, none⟩ = some (.slice A ps[i].2.2.length c) ∧ Rd V A (bv ps[i].2.2) ∧ ps[i].2.2.length ≤ c ∧ ∀ a, A = some a → B ≤ a.block ∧ a.block < K
theorem PV.only {B K : Nat} {R : Nat → Prop} {V V' : World} {D : Option Addr} {ps : List (Nat × Nat × List UInt8)} (h : PV B K V D ps) (hO : Only R V V') (hR : ∀ j, B ≤ j → j < K → ¬ R j) : PV B K V' D ps := by
  refine ⟨h.dlt, fun i hi => ?_⟩
  obtain ⟨ad, A, c, hD, e0, e1, e2, hr, hc, hk⟩ := h.each i hi
  have hb := h.dlt ad hD
  have hb' : B ≤ (ad.add (i * 3)).block ∧ (ad.add (i * 3)).block < K := by rw [block_of_add]; exact hb
  exact ⟨ad, A, c, hD, hO.cell (hR _ hb'.1 hb'.2) e0, hO.cell (a := ⟨(ad.add (i * 3)).block, (ad.add (i * 3)).off + 1, none⟩) (hR _ hb'.1 hb'.2) e1, hO.cell (a := ⟨(ad.add (i * 3)).block, (ad.add (i * 3)).off + 2, none⟩) (hR _ hb'.1 hb'.2) e2, hO.rd (fun a ha => hR _ (hk a ha).1 (hk a ha).2) hr, hc, hk⟩
theorem PV.keep {B K : Nat} {V V' : World} {D : Option Addr} {ps : List (Nat × Nat × List UInt8)} (h : PV B K V D ps) (hb : Below V.heap.size V V') : PV B K V' D ps := h.only (R := fun _ => False) (Only.of_below hb) (fun _ _ _ f => f)
theorem PV.of {B : Nat} {V : World} {v : Value} {ps : List (Nat × Nat × List UInt8)} (h : Plcs B V v ps) : ∃ D c, v = .slice D ps.length c ∧ PV B V.heap.size V D ps := by
  obtain ⟨D, c, hv, h1, h2⟩ := h.at
  refine ⟨D, c, hv, ⟨fun ad ha => h1 ad ha, fun i hi => ?_⟩⟩
  obtain ⟨ad, A, c, hD, e0, e1, e2, ho⟩ := h2 i hi
  exact ⟨ad, A, c, hD, e0, e1, e2, ho.rd, ho.cap_le, fun a ha => ho.lt a ha⟩
/-- records of one's own that lie below K, as they are read: each one's bytes in a block of their own -/
structure RV (B K : Nat) (V : World) (D : Option Addr) (f : Nat → Option Addr × Nat) (rs : List (Nat × List UInt8)) : Prop where
  dlt : ∀ ad, D = some ad → ad.block < K
  each : ∀ i (hi : i < rs.length), ∃ ad, D = some ad ∧ V.cell? (ad.add (i * 2)) = some (.int .i64 rs[i].1) ∧ V.cell? ⟨(ad.add (i * 2)).block, (ad.add (i * 2)).off + 1, none⟩ = some (.slice (f i).1 rs[i].2.length (f i).2) ∧
      Own B V (f i).1 rs[i].2.length (f i).2 rs[i].2 ∧ ∀ a, (f i).1 = some a → a.block < K
  dis : ∀ i j, i < j → j < rs.length → ∀ a a', (f i).1 = some a → (f j).1 = some a' → a.block ≠ a'.block
theorem RV.only {B K : Nat} {R : Nat → Prop} {V V' : World} {D : Option Addr} {f : Nat → Option Addr × Nat} {rs : List (Nat × List UInt8)} (h : RV B K V D f rs) (hO : Only R V V') (hR : ∀ j, j < K → ¬ R j) : RV B K V' D f rs := by
  refine ⟨h.dlt, fun i hi => ?_, h.dis⟩
  obtain ⟨ad, hD, e0, e1, ho, hk⟩ := h.each i hi
  have hb := h.dlt ad hD
  have hb' : (ad.add (i * 2)).block < K := by rw [block_of_add]; exact hb
  exact ⟨ad, hD, hO.cell (hR _ hb') e0, hO.cell (a := ⟨(ad.add (i * 2)).block, (ad.add (i * 2)).off + 1, none⟩) (hR _ hb') e1, hO.own (fun a ha => hR _ (hk a ha)) ho, hk⟩
theorem RV.keep {B K : Nat} {V V' : World} {D : Option Addr} {f : Nat → Option Addr × Nat} {rs : List (Nat × List UInt8)} (h : RV B K V D f rs) (hb : Below V.heap.size V V') : RV B K V' D f rs := h.only (R := fun _ => False) (Only.of_below hb) (fun _ _ f => f)
theorem RV.of {B K : Nat} {V : World} {v : Value} {rs : List (Nat × List UInt8)} (h : Rcs B K V v rs) (hK : K ≤ V.heap.size) : ∃ D c f, v = .slice D rs.length c ∧ RV B V.heap.size V D f rs := by
  obtain ⟨xs, hxl, hrow, hxs, hd⟩ := h.ex
  have hf : ∀ i (hi : i < rs.length), xs[i]? = some (xs[i]'(by omega)) := fun i hi => List.getElem?_eq_getElem (by omega)
  obtain ⟨f, hff⟩ : ∃ f : Nat → Option Addr × Nat, ∀ i (hi : i < rs.length) A n c, (xs[i]'(by omega)).2 = .slice A n c → f i = (A, c) :=
    ⟨fun i => match xs[i]? with | some (_, .slice A _ c) => (A, c) | _ => (none, 0), fun i hi A n c e => by
      show (match xs[i]? with | some (_, .slice A _ c) => (A, c) | _ => (none, 0)) = _
      rw [hf i hi]
      generalize xs[i]'(by omega) = x at *
      obtain ⟨x1, x2⟩ := x
      simp only at e
      subst e
      rfl⟩
  have hdis : ∀ i j, i < j → j < rs.length → ∀ a a', (f i).1 = some a → (f j).1 = some a' → a.block ≠ a'.block := fun i j hij hj a a' e1 e2 => by
    obtain ⟨_, A, c, h3, _⟩ := hxs i (by omega) (by omega)
    obtain ⟨_, A', c', h3', _⟩ := hxs j hj (by omega)
    have := List.pairwise_iff_getElem.1 hd i j (by omega) (by omega) hij A _ c A' _ c' h3 h3' a a'
    rw [hff i (by omega) _ _ _ h3] at e1
    rw [hff j hj _ _ _ h3'] at e2
    exact this e1 e2
  rcases hrow.2 with ⟨hv, hn⟩ | ⟨g, cap, cur, hv, hbg, hg, _, _, hsz, htk⟩
  · exact ⟨none, 0, f, by rw [hv, hn], ⟨fun ad e => (by cases e), fun i hi => absurd hi (by omega), hdis⟩⟩
  · refine ⟨_, cap, f, hv, ⟨fun ad e => (by cases e; exact (Array.getElem?_eq_some_iff.1 hg).1), fun i hi => ?_, hdis⟩⟩
    obtain ⟨h1, A, c, h3, h4, h5⟩ := hxs i hi (by omega)
    have hfl : ∀ (ys : List (Nat × Value)) (i j : Nat) (hi : i < ys.length), j < 2 → (ys.flatMap rcv)[i * 2 + j]? = (rcv ys[i])[j]? := fun ys => by
      induction ys with
      | nil => intro i j hi; simp at hi
      | cons y ys ih =>
        intro i j hi hj
        rw [List.flatMap_cons]
        cases i with
        | zero => rw [List.getElem?_append_left (by simp [rcv]; omega)]; simp
        | succ i =>
          rw [List.getElem?_append_right (by simp [rcv]; omega), show (i + 1) * 2 + j - (rcv y).length = i * 2 + j from by simp [rcv]; omega, ih i j (by simpa using hi) hj]
          simp
    have hc : ∀ j, j < 2 → V.cell? ⟨g, i * 2 + j, none⟩ = (rcv (xs[i]'(by omega)))[j]? := fun j hj => by
      rw [← hfl xs i j (by omega) hj, ← htk, cell_of_row V g _ _ _ _ hg, List.getElem?_take, if_pos (by omega), Array.getElem?_toList]
    have e := hff i hi _ _ _ h3
    rw [e]
    refine ⟨⟨g, 0, none⟩, rfl, ?_, ?_, h4, fun a ha => Nat.lt_of_lt_of_le (h5 a ha) hK⟩
    · rw [addr0, ← h1]; exact hc 0 (by omega)
    · rw [addr0]; simp only; rw [← h3]; exact hc 1 (by omega)
theorem scan_same (a b c d e : Int) (W : World) : (binOp .neq 57 (.agg #[.int .i64 a, .int .i64 b, .int .i64 c, .int .u32 d, .int .i64 e]) (.agg #[.int .i64 a, .int .i64 b, .int .i64 c, .int .u32 d, .int .i64 e])).run Try.prog W = .ok (.bool false) W := by
  have u3 := Try.underlying3
  have a3 := Try.isAgg3
  have z3 := Try.sizeOf3
  have u2 := Try.underlying2
  have a2 := Try.isAgg2
  have z2 := Try.sizeOf2
  have u4 := Try.underlying35
  have a4 := Try.isAgg35
  have z4 := Try.sizeOf35
  rw [run_neq_struct, show (10000 : Nat) = 9999 + 1 from rfl, run_equalIn_agg W 9999 _ _ _ (by kernel_rfl) (by kernel_rfl)]
  simp only [Program.fieldsOf, Try.underlying57]
  go_simp
theorem scanL_dat (b : List UInt8) : ∀ (k : Nat) (s : Sc), s.fin ≤ b.length → ∀ x ∈ (scanL b k s).1, x.2.2.length ≤ b.length
  | 0, s, _, x, hx => by simp [scanL] at hx
  | k + 1, s, h, x, hx => by
    simp only [scanL] at hx
    cases hs : scan1 b s with
    | inr y => rw [hs] at hx; simp at hx
    | inl z =>
      obtain ⟨L, d, s'⟩ := z
      rw [hs] at hx
      obtain ⟨i1, _, _, _, _, _, i7, i8, _⟩ := scan1_inl hs
      have e : s'.fin = s.fin + (16 + d.length) := by rw [i8]
      simp only [List.mem_cons] at hx
      rcases hx with rfl | hx
      · simp only; omega
      · exact scanL_dat b k s' (by omega) x hx
theorem scanI_dat (b : List UInt8) (base : Int) (seed : Nat) : ∀ x ∈ (scanI b base seed).1, x.2.2.length ≤ b.length := by
  unfold scanI
  split
  · intro x hx; simp at hx
  · exact scanL_dat b _ _ (Nat.zero_le _)
theorem findL_dat (lsn : Int) (N : Nat) : ∀ (xs : List (Nat × Nat × List UInt8)), (∀ x ∈ xs, x.2.2.length ≤ N) → (findL lsn xs).2.1.length ≤ N
  | [], _ => Nat.zero_le _
  | x :: xs, h => by
    rw [findL]
    split
    · exact h x List.mem_cons_self
    · exact findL_dat lsn N xs (fun y hy => h y (List.mem_cons_of_mem _ hy))
theorem recs_all (b : List UInt8) (A : Option Addr) (n c : Nat) (base : Int) (seed : Nat) (most : Int) (w : World) (hl : b.length = n) (hn : n ≤ 100000000) (hr : Rd w A (bv b)) (hsd : seed < 4294967296) (g2 : base ≤ 9223372036854775807) :
    Calls Try.prog 31 #[.slice A n c, .int .i64 base, .int .u32 seed, .int .i64 most] w (RecsP w (((scanI b base seed).1.take most.toNat).map (·.2))) := by
  by_cases hm : most < 1
  · rw [show most.toNat = 0 from by omega]
    exact recs_low A n c base seed most w hm
  · obtain ⟨m, rfl⟩ := Int.eq_ofNat_of_zero_le (a := most) (by omega)
    exact recs_any b A n c base seed m w hl hn hr hsd g2 (by omega)

/-- what stands still in the last loop: blocks below p, the keeper's variable, the iterator's own -/
def St (p wcs he : Nat) : Nat → Prop := fun j => j < p ∨ j = p + 1 ∨ (wcs ≤ j ∧ j < he)
structure LS (w : World) (p b0 g12 wcs he : Nat) (D : Option Addr) (cD : Nat) (ps : List (Nat × Nat × List UInt8)) (b : List UInt8) (n : Nat) (base seed : Int) (p2 : Nat) (A7 : Option Addr) (c7 : Nat) (V : World) : Prop where
  r0 : V.heap[w.heap.size]? = some (.cells #[.bool false] 4 (0, 0))
  c13 : V.heap[g12 + 1]? = some (.cells #[.slice D ps.length cD] 58 (0, 0))
  k16 : V.heap[p + 1]? = some (.cells #[.pointer (some ⟨p, 0, none⟩)] 27 (0, 0))
  pv : PV b0 g12 V D ps
  cb : V.cell? ⟨wcs, 0, none⟩ = some (.int .i64 base)
  cs : V.cell? ⟨wcs + 1, 0, none⟩ = some (.int .u32 seed)
  co : V.cell? ⟨p2, 0, none⟩ = some (.slice A7 n c7)
  own : Own wcs V A7 n c7 b
  bl : Below w.heap.size w V
  hw : w.heap.size < p
  hg : g12 + 1 < p
  hp : p + 1 < wcs
  h2 : wcs + 2 ≤ p2 ∧ p2 < he
  h7 : ∀ ad, A7 = some ad → wcs ≤ ad.block ∧ ad.block < he
  hv : he ≤ V.heap.size
theorem LS.only {w : World} {p b0 g12 wcs he : Nat} {D : Option Addr} {cD : Nat} {ps : List (Nat × Nat × List UInt8)} {b : List UInt8} {n : Nat} {base seed : Int} {p2 : Nat} {A7 : Option Addr} {c7 : Nat} {V V' : World} {R : Nat → Prop}
    (h : LS w p b0 g12 wcs he D cD ps b n base seed p2 A7 c7 V) (hO : Only R V V') (hR : ∀ j, R j → ¬ St p wcs he j) : LS w p b0 g12 wcs he D cD ps b n base seed p2 A7 c7 V' := by
  have k1 := h.hw; have k2 := h.hg; have k3 := h.hp; have k4 := h.h2
  exact ⟨hO.row (fun hr => hR _ hr (.inl k1)) h.r0, hO.row (fun hr => hR _ hr (.inl k2)) h.c13, hO.row (fun hr => hR _ hr (.inr (.inl rfl))) h.k16, h.pv.only hO (fun j _ hj hr => hR _ hr (.inl (by omega))),
    hO.cell (fun hr => hR _ hr (.inr (.inr ⟨Nat.le_refl _, by show wcs < he; omega⟩))) h.cb, hO.cell (fun hr => hR _ hr (.inr (.inr ⟨by show wcs ≤ wcs + 1; omega, by show wcs + 1 < he; omega⟩))) h.cs,
    hO.cell (fun hr => hR _ hr (.inr (.inr ⟨by show wcs ≤ p2; omega, by show p2 < he; omega⟩))) h.co, hO.own (fun ad ha hr => hR _ hr (.inr (.inr (h.h7 ad ha)))) h.own,
    h.bl.trans (hO.below h.bl.size fun j hj => by have := hR j hj; unfold St at this; omega), k1, k2, k3, k4, h.h7, Nat.le_trans h.hv hO.size⟩

/-- marks among the deferred calls: their blocks are still open -/
def Mk (ds : List Deferred) : Nat → Prop := fun j => ∃ d ∈ ds, d.target = .collected j
structure DefOk (ds : List Deferred) (V : World) : Prop where
  each : ∀ d ∈ ds, ∃ D, d = { target := .collected D, args := #[] } ∧ V.heap[D]? = some (Obj.deferred (some []))
  ne : ds.Pairwise fun a b => a.target ≠ b.target
theorem DefOk.lt {ds : List Deferred} {V : World} (h : DefOk ds V) {j : Nat} (hj : Mk ds j) : j < V.heap.size ∧ V.heap[j]? = some (Obj.deferred (some [])) := by
  obtain ⟨d, hd, ht⟩ := hj
  obtain ⟨D, e, hD⟩ := h.each d hd
  subst e
  injection ht with ht
  subst ht
  exact ⟨(Array.getElem?_eq_some_iff.1 hD).1, hD⟩
theorem DefOk.only {ds : List Deferred} {V V' : World} {R : Nat → Prop} (h : DefOk ds V) (hO : Only R V V') (hR : ∀ j, Mk ds j → ¬ R j) : DefOk ds V' :=
  ⟨fun d hd => by
    obtain ⟨D, e, hD⟩ := h.each d hd
    exact ⟨D, e, hO.row (hR D ⟨d, hd, by rw [e]⟩) hD⟩, h.ne⟩
theorem DefOk.cons {ds : List Deferred} {V : World} (h : DefOk ds V) {D : Nat} (hD : V.heap[D]? = some (Obj.deferred (some []))) (hn : ¬ Mk ds D) : DefOk ({ target := .collected D, args := #[] } :: ds) V := by
  refine ⟨fun d hd => ?_, List.pairwise_cons.2 ⟨fun d hd e => hn ⟨d, hd, e.symm⟩, h.ne⟩⟩
  rcases List.mem_cons.1 hd with rfl | hd
  · exact ⟨D, rfl, hD⟩
  · exact h.each d hd
theorem leaves_marks {fn : Func} {tmps : Array Value} {R : Ending → World → Prop} : ∀ (ds : List Deferred) (W : World), DefOk ds W →
    (∀ W', Only (Mk ds) W W' → ∃ v, (results fn tmps).run Try.prog W' = .ok v W' ∧ R (.returned v) W') → LeavesInM Fence.wide 3 Try.prog fn tmps R ds .returning W
  | [], W, _, h => by
    obtain ⟨v, hr, hR⟩ := h W (Only.refl _)
    exact ⟨v, hr, hR⟩
  | d :: ds, W, hd, h => by
    obtain ⟨D, e, hD⟩ := hd.each d List.mem_cons_self
    subst e
    have hO := only_putObj W D (.deferred none)
    have hds : DefOk ds W := ⟨fun d hm => hd.each d (List.mem_cons_of_mem _ hm), (List.pairwise_cons.1 hd.ne).2⟩
    have hn : ¬ Mk ds D := fun ⟨d', hd', ht⟩ => (List.pairwise_cons.1 hd.ne).1 d' hd' ht.symm
    refine ⟨by simp, .inl ⟨_, _, rfl, run_takeDeferred hD, leaves_marks ds _ (hds.only hO (fun j hj e => hn (e ▸ hj))) fun W' hO' => h W' ?_⟩⟩
    exact Only.trans (R := Mk ({ target := .collected D, args := #[] } :: ds)) (only_le hO fun j _ e => ⟨_, List.mem_cons_self, by rw [e]⟩) hO' (fun j _ ⟨d', hd', ht⟩ => ⟨d', List.mem_cons_of_mem _ hd', ht⟩)
/-- where the keeper's rows may lie, in a turn of the last loop; where what it keeps may lie -/
def Zt (p wcs he : Nat) (ds : List Deferred) (g26 g27 S : Nat) : Nat → Prop := fun j => (¬ St p wcs he j ∧ j ≠ g26 ∧ ¬ Mk ds j ∧ j ≠ g27 ∧ j < S) ∨ S + 9 ≤ j
def Tt (S H : Nat) : Nat → Prop := fun j => (j < S ∨ S + 9 ≤ j) ∧ j < H
structure LR (w : World) (p b0 g12 wcs he : Nat) (D : Option Addr) (cD : Nat) (ps : List (Nat × Nat × List UInt8)) (b : List UInt8) (n : Nat) (base seed : Int) (p2 : Nat) (A7 : Option Addr) (c7 : Nat) (ds : List Deferred) (t g26 g27 S i : Nat) (V : World) : Prop where
  ls : LS w p b0 g12 wcs he D cD ps b n base seed p2 A7 c7 V
  df : DefOk ds V
  c26 : V.heap[g26]? = some (.cells #[.int .i64 t] 3 (0, 0))
  c27 : V.heap[g27]? = some (.cells #[.int .i64 i] 3 (0, 0))
  kk : KKP (w.heap.size + 1) p (Zt p wcs he ds g26 g27 S) V.heap.size (Tt S V.heap.size) V
  h6 : he ≤ g26
  h67 : g26 < g27
  h7 : g27 < S
  hS : S ≤ V.heap.size
  hm : ∀ j, Mk ds j → j < g27
section
variable {w : World} {p b0 g12 wcs he : Nat} {D : Option Addr} {cD : Nat} {ps : List (Nat × Nat × List UInt8)} {b : List UInt8} {n : Nat} {base seed : Int} {p2 : Nat} {A7 : Option Addr} {c7 : Nat} {ds : List Deferred} {t g26 g27 S i : Nat} {V V' : World}
theorem LR.nSt (h : LR w p b0 g12 wcs he D cD ps b n base seed p2 A7 c7 ds t g26 g27 S i V) {j : Nat} (hj : g26 ≤ j) : ¬ St p wcs he j := by
  have h1 := h.h6; have h2 := h.ls.hp; have h3 := h.ls.h2
  unfold St
  omega
theorem LR.only {R : Nat → Prop} (h : LR w p b0 g12 wcs he D cD ps b n base seed p2 A7 c7 ds t g26 g27 S i V) (hO : Only R V V') (hR : ∀ j, R j → S ≤ j ∧ j < S + 9) : LR w p b0 g12 wcs he D cD ps b n base seed p2 A7 c7 ds t g26 g27 S i V' := by
  have h1 := h.h6; have h2 := h.h67; have h3 := h.h7; have h4 := hO.size
  refine ⟨h.ls.only hO (fun j hj => h.nSt (by have := hR j hj; omega)), h.df.only hO (fun j hj hr => by have := hR j hr; have := h.hm j hj; omega), hO.row (fun hr => by have := hR _ hr; omega) h.c26, hO.row (fun hr => by have := hR _ hr; omega) h.c27, ?_, h1, h2, h3, Nat.le_trans h.hS h4, h.hm⟩
  exact (h.kk.only hO (fun j hj _ hr => by have := hR j hr; rcases hj with hj | hj <;> omega) (fun j hj _ hr => by have := hR j hr; have := hj.1; omega)).weaken h4 (fun j hj _ => hj) (fun j hj _ => ⟨hj.1, by have := hj.2; omega⟩)
theorem LR.keep (h : LR w p b0 g12 wcs he D cD ps b n base seed p2 A7 c7 ds t g26 g27 S i V) (hb : Below V.heap.size V V') : LR w p b0 g12 wcs he D cD ps b n base seed p2 A7 c7 ds t g26 g27 S i V' := h.only (R := fun _ => False) (Only.of_below hb) (fun _ f => f.elim)
/-- a turn ends: the counter is copied, and one more -/
theorem LR.turn (h : LR w p b0 g12 wcs he D cD ps b n base seed p2 A7 c7 ds t g26 g27 S i V) (hk : V.heap[S]? = some (Obj.deferred (some []))) {x : Int} (hx : x = ((t + 1 : Nat) : Int)) (hM : ∀ j, Mk ds j → he ≤ j) :
    LS w p b0 g12 wcs he D cD ps b n base seed p2 A7 c7 (V.alloc (.cells #[.int .i64 x] 3)) ∧
    DefOk ({ target := .collected S, args := #[] } :: ds) (V.alloc (.cells #[.int .i64 x] 3)) ∧ (∀ j, Mk ({ target := .collected S, args := #[] } :: ds) j → he ≤ j) ∧
    (V.alloc (.cells #[.int .i64 x] 3)).heap[V.heap.size]? = some (.cells #[.int .i64 ((t + 1 : Nat) : Int)] 3 (0, 0)) ∧ he ≤ V.heap.size ∧
    KKP (w.heap.size + 1) p (fun j => ¬ St p wcs he j ∧ j ≠ V.heap.size ∧ ¬ Mk ({ target := .collected S, args := #[] } :: ds) j) (V.alloc (.cells #[.int .i64 x] 3)).heap.size (fun j => j < (V.alloc (.cells #[.int .i64 x] 3)).heap.size) (V.alloc (.cells #[.int .i64 x] 3)) := by
  subst hx
  have h1 := h.h6; have h2 := h.h67; have h3 := h.h7; have h4 := h.hS
  have hb : Below V.heap.size V (V.alloc (.cells #[.int .i64 ((t + 1 : Nat) : Int)] 3)) := (Below.refl _ _).alloc (Nat.le_refl _) _
  have hnew := heap_alloc_new V (.cells #[.int .i64 ((t + 1 : Nat) : Int)] 3)
  have hO : Only (fun _ => False) V (V.alloc (.cells #[.int .i64 ((t + 1 : Nat) : Int)] 3)) := Only.of_below hb
  have hSl := (Array.getElem?_eq_some_iff.1 hk).1
  have hnm : ¬ Mk ds S := fun hm => by have := h.hm S hm; omega
  have hM' : ∀ j, Mk ({ target := .collected S, args := #[] } :: ds) j → j = S ∨ Mk ds j := fun j ⟨d, hd, e⟩ => by
    rcases List.mem_cons.1 hd with rfl | hd
    · injection e with e; exact .inl e.symm
    · exact .inr ⟨d, hd, e⟩
  refine ⟨h.ls.only hO (fun j e => e.elim), (h.df.cons hk hnm).only hO (fun j hj e => e), fun j hj => ?_, hnew, by omega, ?_⟩
  · rcases hM' j hj with e' | hj
    · omega
    · exact hM j hj
  · refine (h.kk.keep hb).weaken hb.size (fun j hj hl => ?_) (fun j _ hl => hl)
    rcases hj with hj | hj
    · exact ⟨hj.1, by omega, fun hm => by
        rcases hM' j hm with e | hm
        · omega
        · exact hj.2.2.1 hm⟩
    · exact ⟨h.nSt (by omega), by omega, fun hm => by
        rcases hM' j hm with e | hm
        · omega
        · have := h.hm j hm; omega⟩
/-- one more is kept, and counted -/
theorem LR.step {W W' : World} {A : Option Addr} (h : LR w p b0 g12 wcs he D cD ps b n base seed p2 A7 c7 ds t g26 g27 S i V) (hb : Below V.heap.size V W) (hO : Only (Zt p wcs he ds g26 g27 S) W W') (hA : ∀ ad, A = some ad → S + 9 ≤ ad.block)
    (hK : KKP (w.heap.size + 1) p (Zt p wcs he ds g26 g27 S) W'.heap.size (fun j => Tt S V.heap.size j ∨ ∃ ad, A = some ad ∧ j = ad.block) W') :
    LR w p b0 g12 wcs he D cD ps b n base seed p2 A7 c7 ds t g26 g27 S (i + 1) (W'.setCell ⟨g27, 0, none⟩ (.int .i64 ((i + 1 : Nat) : Int))) := by
  have hW := h.keep hb
  have h1 := h.h6; have h2 := h.h67; have h3 := h.h7; have h4 := hO.size; have h5 := hb.size
  have hZ : ∀ j, Zt p wcs he ds g26 g27 S j → ¬ St p wcs he j := fun j hj => by
    rcases hj with hj | hj
    · exact hj.1
    · exact h.nSt (by omega)
  have hset := only_set W' g27 0 (.int .i64 ((i + 1 : Nat) : Int))
  have c27 := hO.row (g := g27) (fun hr => by rcases hr with hr | hr <;> omega) hW.c27
  refine ⟨(hW.ls.only hO hZ).only hset (fun j hj => by rw [hj]; exact h.nSt (by omega)), (hW.df.only hO (fun j hj hr => ?_)).only hset (fun j hj e => by have := h.hm j hj; omega),
    hset.row (by omega) (hO.row (fun hr => by rcases hr with hr | hr <;> omega) hW.c26), heap_setCell_same _ _ 0 _ _ _ c27, ?_, h1, h2, h3, Nat.le_trans (Nat.le_trans h.hS h5) (Nat.le_trans h4 hset.size), h.hm⟩
  · rcases hr with hr | hr
    · exact hr.2.2.1 hj
    · have := h.hm j hj; omega
  · have hs := hset.size
    have h6 := h.hS
    refine (hK.set c27 (by decide) (by decide) (by decide)).weaken hs (fun j hj _ => hj) (fun j hj hl => ?_)
    rcases hj with hj | ⟨ad, ha, e⟩
    · exact ⟨hj.1, hl⟩
    · exact ⟨.inr (by rw [e]; exact hA ad ha), hl⟩
end
/-- how many turns are left -/
def mu26 (x : Value) (V : World) : Nat := match x with
  | .pointer (some ad) => 2 - (intAt V ad.block 0).toNat
  | _ => 0
theorem mu26_of {V : World} {g : Nat} {t : Nat} (h : V.heap[g]? = some (.cells #[.int .i64 t] 3 (0, 0))) : mu26 (.pointer (some ⟨g, 0, none⟩)) V = 2 - t := by
  have h1 : intAt V g 0 = (t : Int) := intAt_of (k := .i64) (cell_of_row _ _ 0 _ _ _ h)
  show 2 - (intAt V g 0).toNat = _
  rw [h1]
  omega
theorem results_cellV {P : Program} {fn : Func} {p : Tmp} {ty : TypeId} {x : Value} (h : fn.results = #[.cell p ty]) (tmps : Array Value) (w : World) (g : Nat) (hp : tmps.getD p undef = .pointer (some ⟨g, 0, none⟩)) (hl : (loadVar ty ⟨g, 0, none⟩).run P w = .ok x w) :
    (results fn tmps).run P w = .ok x w := by
  have hp' : tmps[p]?.getD undef = .pointer (some ⟨g, 0, none⟩) := by simpa using hp
  simp [results, h, hp', asAddr, hl]
/-- many values under one name -/
def nth : List Value → Nat → Value
  | [], _ => undef
  | x :: _, 0 => x
  | _ :: l, n + 1 => nth l n
theorem lit_wit (l : List Value) (F : (Nat → Value) → Array Value) (ds : List Deferred) (h : l.toArray = F (nth l)) : ∃ u : Nat → Value, ({ tmps := l.toArray, defers := ds } : Act) = { tmps := F u, defers := ds } := ⟨nth l, by rw [h]⟩
theorem lit_wit' (l : List Value) (F : (Nat → Value) → Array Value) (h : l.toArray = F (nth l)) : ∃ u : Nat → Value, l.toArray = F u := ⟨nth l, h⟩
end Go.Proofs.Ytdfabjkffjacoaa
