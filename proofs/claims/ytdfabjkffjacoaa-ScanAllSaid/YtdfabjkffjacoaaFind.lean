/- Walk: scan.Find. -/
import Derived.Test.YtdfabjkffjacoaaRecs
namespace Go.Proofs.Ytdfabjkffjacoaa
open Go.RowKit Go.Shelf
attribute [local go_sem] Oper.semAt_some

/-- the record with a number: number, bytes, place, error -/
def findL (lsn : Int) : List (Nat × Nat × List UInt8) → Nat × List UInt8 × Nat × Nat
  | [] => (0, [], 0, 6)
  | x :: xs => if (x.2.1 : Int) = lsn then (x.2.1, x.2.2, x.1, 0) else findL lsn xs
theorem findL_at (lsn : Int) : ∀ (xs : List (Nat × Nat × List UInt8)) (i : Nat) (hi : i < xs.length), (∀ j (h : j < xs.length), j < i → (xs[j].2.1 : Int) ≠ lsn) → (xs[i].2.1 : Int) = lsn → findL lsn xs = (xs[i].2.1, xs[i].2.2, xs[i].1, 0)
  | [], i, hi, _, _ => absurd hi (Nat.not_lt_zero _)
  | x :: xs, 0, _, _, h => by simp only [List.getElem_cons_zero] at h ⊢; rw [findL, if_pos h]
  | x :: xs, i + 1, hi, hn, h => by
    have h0 := hn 0 (by simp) (by omega)
    simp only [List.getElem_cons_zero] at h0
    rw [findL, if_neg h0]
    simp only [List.getElem_cons_succ] at h ⊢
    exact findL_at lsn xs i (by simpa using hi) (fun j hj hji => by have := hn (j + 1) (by simp; omega) (by omega); simpa using this) h
theorem findL_none (lsn : Int) : ∀ (xs : List (Nat × Nat × List UInt8)), (∀ j (h : j < xs.length), (xs[j].2.1 : Int) ≠ lsn) → findL lsn xs = (0, [], 0, 6)
  | [], _ => rfl
  | x :: xs, hn => by
    have h0 := hn 0 (by simp)
    simp only [List.getElem_cons_zero] at h0
    rw [findL, if_neg h0]
    exact findL_none lsn xs (fun j hj => by have := hn (j + 1) (by simp; omega); simpa using this)
def FindP (w : World) (r : Nat × List UInt8 × Nat × Nat) (e : Ending) (w' : World) : Prop :=
  ∃ A m c, e = .returned (.tuple #[.agg #[.int .i64 r.1, .slice A m c], .int .i64 r.2.2.1, .int .i64 r.2.2.2]) ∧ Own w.heap.size w' A m c r.2.1 ∧ Below w.heap.size w w'

/-- what Find keeps between two rounds -/
structure FI (w : World) (lsn : Int) (xs : List (Nat × Nat × List UInt8)) (i : Nat) (V : World) : Prop where
  bx : V.heap[w.heap.size]? = some (.cells #[.int .i64 lsn] 2 (0, 0))
  r0 : V.heap[w.heap.size + 1]? = some (.cells #[.int .i64 0, .slice none 0 0] 34 (0, 0))
  r1 : V.heap[w.heap.size + 2]? = some (.cells #[.int .i64 0] 3 (0, 0))
  r2 : V.heap[w.heap.size + 3]? = some (.cells #[.int .i64 0] 36 (0, 0))
  bl : Below w.heap.size w V
  ne : ∀ j (h : j < xs.length), j < i → (xs[j].2.1 : Int) ≠ lsn
theorem FI.only {w V V' : World} {lsn : Int} {xs : List (Nat × Nat × List UInt8)} {i : Nat} {R : Nat → Prop} (h : FI w lsn xs i V) (hO : Only R V V') (hR : ∀ j, R j → w.heap.size + 4 ≤ j) : FI w lsn xs i V' :=
  ⟨hO.row (fun hr => by have := hR _ hr; omega) h.bx, hO.row (fun hr => by have := hR _ hr; omega) h.r0, hO.row (fun hr => by have := hR _ hr; omega) h.r1, hO.row (fun hr => by have := hR _ hr; omega) h.r2, h.bl.trans (hO.below h.bl.size fun j hj => by have := hR _ hj; omega), h.ne⟩
/-- when it has been found -/
structure FX (w : World) (S : Nat) (r : Nat × List UInt8 × Nat × Nat) (V : World) : Prop where
  ex : ∃ A m c, V.heap[w.heap.size + 1]? = some (.cells #[.int .i64 r.1, .slice A m c] 34 (0, 0)) ∧ Own (S + 9) V A m c r.2.1
  r1 : V.heap[w.heap.size + 2]? = some (.cells #[.int .i64 r.2.2.1] 3 (0, 0))
  r2 : V.heap[w.heap.size + 3]? = some (.cells #[.int .i64 r.2.2.2] 36 (0, 0))
  bl : Below w.heap.size w V
theorem FX.only {w V V' : World} {S : Nat} {r : Nat × List UInt8 × Nat × Nat} {R : Nat → Prop} (h : FX w S r V) (hO : Only R V V') (hR : ∀ j, R j → w.heap.size + 4 ≤ j ∧ j < S + 9) : FX w S r V' := by
  obtain ⟨A, m, c, h1, h2⟩ := h.ex
  exact ⟨⟨A, m, c, hO.row (fun hr => by have := (hR _ hr).1; omega) h1, hO.own (fun ad ha hr => by have := (hR _ hr).2; have := (h2.lt ad ha).1; omega) h2⟩, hO.row (fun hr => by have := (hR _ hr).1; omega) h.r1, hO.row (fun hr => by have := (hR _ hr).1; omega) h.r2, h.bl.trans (hO.below h.bl.size fun j hj => by have := (hR _ hj).1; omega)⟩
theorem FX.fill {w V5 : World} {S : Nat} {r : Nat × List UInt8 × Nat × Nat} {A : Option Addr} {m c : Nat} (hS : w.heap.size + 4 ≤ S + 9) (hz : w.heap.size + 4 ≤ V5.heap.size) (bl : Below w.heap.size w V5) (s0 : V5.heap[w.heap.size + 1]? = some (.cells #[.int .i64 r.1, .slice A m c] 34 (0, 0))) (ho : Own (S + 9) V5 A m c r.2.1)
    {x1 x2 : Value} (s1 : V5.heap[w.heap.size + 2]? = some (.cells #[x1] 3 (0, 0))) (s2 : V5.heap[w.heap.size + 3]? = some (.cells #[x2] 36 (0, 0))) {y1 y2 : Int} (h1 : y1 = r.2.2.1) (h2 : y2 = r.2.2.2) :
    FX w S r ((V5.setCell ⟨w.heap.size + 2, 0, none⟩ (.int .i64 y1)).setCell ⟨w.heap.size + 3, 0, none⟩ (.int .i64 y2)) ∧ Only (fun j => j = w.heap.size + 2 ∨ j = w.heap.size + 3) V5 ((V5.setCell ⟨w.heap.size + 2, 0, none⟩ (.int .i64 y1)).setCell ⟨w.heap.size + 3, 0, none⟩ (.int .i64 y2)) := by
  subst h1 h2
  have hO : Only (fun j => j = w.heap.size + 2 ∨ j = w.heap.size + 3) V5 ((V5.setCell ⟨w.heap.size + 2, 0, none⟩ (.int .i64 r.2.2.1)).setCell ⟨w.heap.size + 3, 0, none⟩ (.int .i64 r.2.2.2)) :=
    Only.trans (only_le (only_set V5 (w.heap.size + 2) 0 _) fun j _ h => .inl h) (only_set _ (w.heap.size + 3) 0 _) (fun j _ h => .inr h)
  refine ⟨⟨⟨A, m, c, hO.row (by omega) s0, hO.own (fun ad ha hr => by have := (ho.lt ad ha).1; omega) ho⟩, ?_, ?_, bl.trans (hO.below (by omega) fun j hj => by omega)⟩, hO⟩
  · exact (only_set _ (w.heap.size + 3) 0 _).row (by omega) (heap_setCell_same V5 _ 0 _ _ _ s1)
  · exact heap_setCell_same _ _ 0 _ _ _ ((only_set V5 (w.heap.size + 2) 0 _).row (by omega) s2)
theorem results_find {P : Program} {fn : Func} {p q r : Tmp} {ty tq tr : TypeId} (h : fn.results = #[.cell p ty, .cell q tq, .cell r tr]) (tmps : Array Value) (w : World) (g gq gr : Nat) (t : TypeId) (cs : Array Value) (fr : Nat × Nat) (d : TypeDesc) (x y : Value)
    (hp : tmps.getD p undef = .pointer (some ⟨g, 0, none⟩)) (hg : w.heap[g]? = some (.cells cs t fr))
    (hu : P.underlying ty = some d) (hd : (match d with | .struct _ | .array _ _ => true | _ => false) = true) (hi : (P.info? ty).map (·.size) = some cs.size)
    (hq : tmps.getD q undef = .pointer (some ⟨gq, 0, none⟩)) (hr : tmps.getD r undef = .pointer (some ⟨gr, 0, none⟩)) (lq : (loadVar tq ⟨gq, 0, none⟩).run P w = .ok x w) (lr : (loadVar tr ⟨gr, 0, none⟩).run P w = .ok y w) :
    (results fn tmps).run P w = .ok (.tuple #[.agg cs, x, y]) w := by
  have hp' : tmps[p]?.getD undef = .pointer (some ⟨g, 0, none⟩) := by simpa using hp
  have hq' : tmps[q]?.getD undef = .pointer (some ⟨gq, 0, none⟩) := by simpa using hq
  have hr' : tmps[r]?.getD undef = .pointer (some ⟨gr, 0, none⟩) := by simpa using hr
  simp [results, h, hp', hq', hr', asAddr, run_loadVar_row w g t ty cs fr d hg hu hd hi, lq, lr]
theorem FX.post {w V : World} {S D : Nat} {r : Nat × List UInt8 × Nat × Nat} {a : Act} (h : FX w S r V) (hS : w.heap.size + 4 ≤ S) (hD : D = S) (hd : a.defers = [{ target := .collected D, args := #[] }]) (hk : V.heap[D]? = some (.deferred (some [])))
    (h8 : a.tmps.getD 8 undef = .pointer (some ⟨w.heap.size + 1, 0, none⟩)) (h9 : a.tmps.getD 9 undef = .pointer (some ⟨w.heap.size + 2, 0, none⟩)) (h10 : a.tmps.getD 10 undef = .pointer (some ⟨w.heap.size + 3, 0, none⟩)) :
    bodyPostM Fence.wide 3 Try.prog Try.f32 (FindP w r) .ret a V := by
  subst hD
  have hX := h.only (only_putObj V D (.deferred none)) (fun j hj => by omega)
  obtain ⟨A, m, c, h1, h2⟩ := hX.ex
  have c1 := cell_of_row _ _ 0 _ _ _ hX.r1
  have c2 := cell_of_row _ _ 0 _ _ _ hX.r2
  refine bodyPostM_ret hd hk (results_find rfl _ _ _ _ _ _ _ _ _ _ _ h8 h1 Try.underlying34 rfl (by kernel_rfl) h9 h10 (by simp [go_sem, c1]) (by simp [go_sem, c2])) ⟨A, m, c, rfl, h2.mono (by omega), hX.bl⟩

set_option maxRecDepth 100000 in
set_option maxHeartbeats 4000000 in
theorem find_any (b : List UInt8) (A : Option Addr) (n c : Nat) (base : Int) (seed : Nat) (lsn : Int) (w : World) (hl : b.length = n) (hn : n ≤ 100000000) (hr : Rd w A (bv b)) (hsd : seed < 4294967296)
    (g2 : base ≤ 9223372036854775807) :
    Calls Try.prog 32 #[.slice A n c, .int .i64 base, .int .u32 seed, .int .i64 lsn] w (FindP w (findL lsn (scanI b base seed).1)) := by
  obtain ⟨W4, hW4⟩ : ∃ W4, W4 = ((((w.alloc (Obj.cells #[.int .i64 lsn] 2)).alloc (Obj.cells #[.int .i64 0, .slice none 0 0] 34)).alloc (Obj.cells #[.int .i64 0] 3)).alloc (Obj.cells #[.int .i64 0] 36)) := ⟨_, rfl⟩
  obtain ⟨hb4, hz4, q0, q1, q2, q3⟩ := alloc4 w _ _ _ _ W4 hW4
  refine callsIn_wide.1 (callsIn_of_wp_marks (n := 3) Try.func32 rfl trivial ?_ rfl)
  simp only [Try.ntmps32, List.size_toArray, List.length_cons, List.length_nil, Nat.reduceAdd, Nat.reduceSub, Array.replicate_succ, Array.replicate_zero, List.push_toArray, List.append_toArray, List.nil_append, List.cons_append]
  have HW := Lib.hid hW4
  have hr2 := hr.keep hb4
  clear hW4
  gi_wp2_with (refine ⟨trivial, ?_⟩; gi_at_call 34; rw [← HW.out]; refine (callsIn_wide.2 (each_any b A n c base seed W4 hl hn hr2)).mono ?_; rintro e w9 ⟨p2, A1, c1, rfl, hE⟩)
  obtain ⟨S, hS⟩ : ∃ S, S = w9.heap.size := ⟨_, rfl⟩
  have hz9 := hE.bl.size
  have hS2 : w.heap.size + 4 ≤ S := by omega
  have hc1 := hE.own.cap_le
  have hsq := each1_all b A1 n c1 base seed W4.heap.size p2 (W4.heap.size + 1) w9 hl hn hc1 hE.own.rd hsd g2 hE.cb hE.co hE.cs
  rw [show w.heap.size + 4 = W4.heap.size from hz4.symm]
  have hA1 := hE.own.lt
  have h0 : FI w lsn (scanI b base seed).1 0 w9 := ⟨(hE.bl.block _ (by omega)).trans q0, (hE.bl.block _ (by omega)).trans q1, (hE.bl.block _ (by omega)).trans q2, (hE.bl.block _ (by omega)).trans q3, thn hb4 hE.bl, fun _ _ h => absurd h (Nat.not_lt_zero _)⟩
  generalize hxs : (scanI b base seed).1 = xs at *
  have HXS := Lib.hid hxs
  have HS := Lib.hid hS
  have HZ4 := Lib.hid hz4
  clear hxs hS hz4 hE hr2 HW
  refine wp_rangeP (gf := 52) rfl (enters_of Try.func52 (by kernel_rfl) rfl) hsq (fun _ _ => rfl) (FI w lsn xs)
    (fun c i V => c = .ret ∧ FX w S (findL lsn xs) V) h0
    (fun x v W1 a' W2' => W2'.heap[W1.heap.size]? = some (.cells #[.int .i64 x.2.1, v] 34 (0, 0)) ∧ a'.defers = [] ∧ ∃ u0 u1 u2 u3 u13 u14 u15 u16 u17 u18, a'.tmps = #[u0, u1, u2, u3, undef, undef, undef, .pointer (some ⟨w.heap.size, 0, none⟩), .pointer (some ⟨w.heap.size + 1, 0, none⟩), .pointer (some ⟨w.heap.size + 2, 0, none⟩), .pointer (some ⟨w.heap.size + 3, 0, none⟩), .int .i64 x.1, .pointer (some ⟨W1.heap.size, 0, none⟩), u13, u14, u15, u16, u17, u18, undef, undef, undef, undef, undef, undef, undef]) ?assign ?body ?kp ?done ?stop
  case assign =>
    intro l x A' m' cc' W1
    simp only [encE]
    gi_wp2
    exact ⟨(Below.refl _ _).alloc (Nat.le_refl _) _, heap_alloc_new _ _, trivial, _, _, _, _, _, _, _, _, _, _, rfl⟩
  case body =>
    rintro l' i A' m cc V0 V1 V2 V3 a' hi hI hle hO hsz ho hlow hb ⟨hx, hd, u0, u1, u2, u3, u13, u14, u15, u16, u17, u18, ht⟩ hO3
    obtain ⟨tmps, defers⟩ := a'
    simp only at hd ht
    subst hd
    subst ht
    have hS := HS.out
    rw [← hS] at hO hO3 hsz hlow
    have hI1 := hI.only hO (fun j hj => by have := hj.1; omega)
    have hI2 := hI1.only (R := fun _ => False) (Only.of_below hb) (fun _ h => h.elim)
    have hI3 := hI2.only hO3 (fun j hj => by omega)
    have x3 := hO3.row (g := V1.heap.size) (by omega) hx
    have ho3 : Own (S + 9) V3 A' m cc (datE xs[i]) := (hO3.own (fun ad ha hr => by have := hlow ad ha; omega) (ho.keep hb)).low' (fun ad ha => by have := hlow ad ha; omega)
    have hs3 : S + 9 ≤ V3.heap.size := by have := hO3.size; have := hb.size; omega
    have z0 := cell_of_row _ _ 0 _ _ _ x3
    have z1 := cell_of_row _ _ 1 _ _ _ x3
    have cx := cell_of_row _ _ 0 _ _ _ hI3.bx
    clear hO hb hO3 hI hI1 hI2 hx ho hlow hS
    have hgp : KeepsR (fun j => pr w9.heap.size (2 + 7) j ∨ 0 < n ∧ ∃ ad, A1 = some ad ∧ j = ad.block) V3 V3 := ⟨Nat.le_refl _, fun _ _ => rfl⟩
    by_cases hlsn : (xs[i].2.1 : Int) = lsn
    · have hlb : ((xs[i].2.1 : Int) == lsn) = true := by simpa using hlsn
      have HLS := Lib.hid hlsn
      have HF := Lib.hid (findL_at lsn xs i hi hI3.ne hlsn)
      clear hlsn
      gi_wp2_with (first
        | (refine wpListIn_store_row rfl _ (.tmp 8) (.tmp 23) rfl _ #[.int .i64 xs[i].2.1, .slice A' m cc] rfl rfl _ _ hI3.r0 (by kernel_rfl) rfl (by kernel_rfl) ?_
           obtain ⟨V5, hV5⟩ : ∃ V5, V5 = V3.setRow (w.heap.size + 1) #[.int .i64 xs[i].2.1, .slice A' m cc] := ⟨_, rfl⟩
           have hO5 : Only (fun j => j = w.heap.size + 1) V3 V5 := by rw [hV5]; exact ⟨rfl, rfl, rfl, by simp, fun j _ hn => setRow_other _ _ j _ hn⟩
           have s0 : V5.heap[w.heap.size + 1]? = some (.cells #[.int .i64 xs[i].2.1, .slice A' m cc] 34 (0, 0)) := by rw [hV5]; exact setRow_heap V3 _ _ _ _ _ hI3.r0
           have s1 := hO5.row (g := w.heap.size + 2) (by omega) hI3.r1
           have s2 := hO5.row (g := w.heap.size + 3) (by omega) hI3.r2
           have t1 := cell_of_row _ _ 0 _ _ _ s1
           have t2 := cell_of_row _ _ 0 _ _ _ s2
           have v1 := frozen_of_row _ _ 0 _ _ s1
           have v2 := frozen_of_row _ _ 0 _ _ s2
           rw [← hV5]
           clear hV5))
      have hb5 := hI3.bl.trans (hO5.below hI3.bl.size fun j hj => by omega)
      have hz5 := hO5.size
      obtain ⟨hX, hOX⟩ := FX.fill (S := S) (r := (xs[i].2.1, xs[i].2.2, xs[i].1, 0)) (by omega) (by omega) hb5 s0 (hO5.own (fun ad ha hr => by have := (ho3.lt ad ha).1; omega) ho3) s1 s2 (y1 := xs[i].1) (y2 := 0) rfl rfl
      have hO7 := Only.trans (R := fun j => j = w.heap.size + 1 ∨ j = w.heap.size + 2 ∨ j = w.heap.size + 3) (only_le hO5 fun j _ h => .inl h) hOX (fun j _ h => .inr h)
      refine ⟨⟨hO7.size, fun j hj => ?_⟩, rfl, by rw [HF.out]; exact hX⟩
      have hS := HS.out
      have hZ := HZ4.out
      rcases hj with hj | ⟨_, ad, ha, rfl⟩
      · exact hO7.block j (by have := hj.2; omega) (by have := hj.1; omega)
      · have := hA1 ad ha
        exact hO7.block _ (by omega) (by omega)
    · have hlb : ((xs[i].2.1 : Int) == lsn) = false := by simpa using hlsn
      have HLS := Lib.hid hlsn
      clear hlsn
      gi_wp2
      exact ⟨hgp, ⟨hI3.bx, hI3.r0, hI3.r1, hI3.r2, hI3.bl, fun j hj hji => by
        by_cases e : j = i
        · subst e; exact HLS.out
        · exact hI3.ne j hj (by omega)⟩⟩
  case kp =>
    rintro j ⟨_, ad, ha, rfl⟩
    exact (hA1 ad ha).2
  case done =>
    rintro V0 V hI hle hO hk
    rw [← HS.out] at hO
    have hI1 := hI.only hO (fun j hj => by have := hj.1; omega)
    have HF := Lib.hid (findL_none lsn xs (fun j hj => hI1.ne j hj hj))
    have hsz := hO.size
    have hS := HS.out
    gi_wp2_with (first
      | (refine wpListIn_store_row rfl _ (.tmp 8) (.tmp 25) rfl _ #[.int .i64 0, .slice none 0 0] rfl rfl _ _ hI1.r0 (by kernel_rfl) rfl (by kernel_rfl) ?_
         obtain ⟨V5, hV5⟩ : ∃ V5, V5 = V.setRow (w.heap.size + 1) #[.int .i64 0, .slice none 0 0] := ⟨_, rfl⟩
         have hO5 : Only (fun j => j = w.heap.size + 1) V V5 := by rw [hV5]; exact ⟨rfl, rfl, rfl, by simp, fun j _ hn => setRow_other _ _ j _ hn⟩
         have s0 : V5.heap[w.heap.size + 1]? = some (.cells #[.int .i64 0, .slice none 0 0] 34 (0, 0)) := by rw [hV5]; exact setRow_heap V _ _ _ _ _ hI1.r0
         have s1 : V5.heap[w.heap.size + 1 + 1]? = _ := hO5.row (g := w.heap.size + 2) (by omega) hI1.r1
         have s2 : V5.heap[w.heap.size + 1 + 1 + 1]? = _ := hO5.row (g := w.heap.size + 3) (by omega) hI1.r2
         have hk5 := hO5.row (g := w9.heap.size) (by omega) hk
         have t1 := cell_of_row _ _ 0 _ _ _ s1
         have t2 := cell_of_row _ _ 0 _ _ _ s2
         have v1 := frozen_of_row _ _ 0 _ _ s1
         have v2 := frozen_of_row _ _ 0 _ _ s2
         rw [← hV5]
         clear hV5))
    have hz5 := hO5.size
    have hb5 := hI1.bl.trans (hO5.below hI1.bl.size fun j hj => by omega)
    obtain ⟨hX, hOX⟩ := FX.fill (S := S) (r := (0, [], 0, 6)) (by omega) (by omega) hb5 s0 (Own.nil _ _) s1 s2 (y1 := 0) (y2 := 6) rfl rfl
    refine FX.post (by rw [HF.out]; exact hX) (by omega) hS.symm rfl (hOX.row (by omega) hk5) rfl rfl rfl
  case stop =>
    rintro c' i V0 V hi0 hil ⟨rfl, hX⟩ hle hO hk
    rw [← HS.out] at hO
    have hX1 := hX.only hO (fun j hj => ⟨by have := hj.1; omega, by have := hj.2; omega⟩)
    gi_wp2
    exact hX1.post (by omega) HS.out.symm rfl hk rfl rfl rfl
end Go.Proofs.Ytdfabjkffjacoaa
