/- Walks: scan.Records, scan.Find. -/
import Derived.Test.YtdfabjkffjacoaaEach
namespace Go.Proofs.Ytdfabjkffjacoaa
open Go.RowKit Go.Shelf
attribute [local go_sem] Oper.semAt_some

/-- a scan from whatever number on -/
def scanI (b : List UInt8) (base : Int) (seed : Nat) : List (Nat × Nat × List UInt8) × Sc × Nat :=
  if base < 1 then ([], ⟨0, 0, 0, 0⟩, 0) else scanL b (b.length + 1) ⟨0, 0, base.toNat, seed⟩
theorem over_all (b : List UInt8) (A : Option Addr) (n c : Nat) (base : Int) (seed : Nat) (w : World) (hl : b.length = n) (hn : n ≤ 100000000) (hc : n ≤ c) (hr : Rd w A (bv b)) (hsd : seed < 4294967296) (g2 : base ≤ 9223372036854775807) :
    Calls Try.prog 30 #[.slice A n c, .int .i64 base, .int .u32 seed] w (OverP w (scanI b base seed).2.1 (scanI b base seed).2.2) := by
  unfold scanI
  by_cases h : base < 1
  · rw [if_pos h]
    exact over_low A n c base seed w h
  · rw [if_neg h]
    obtain ⟨bs, rfl⟩ := Int.eq_ofNat_of_zero_le (a := base) (by omega)
    subst hl
    exact over_any b A _ c bs seed w rfl hn hc hr hsd (by omega) (by omega)
theorem each1_all (b : List UInt8) (A : Option Addr) (n c : Nat) (base : Int) (seed : Nat) (p1 p2 p3 : Nat) (w : World) (hl : b.length = n) (hn : n ≤ 100000000) (hc : n ≤ c) (hr : Rd w A (bv b)) (hsd : seed < 4294967296)
    (g2 : base ≤ 9223372036854775807) (c1 : w.cell? ⟨p1, 0, none⟩ = some (.int .i64 base)) (c2 : w.cell? ⟨p2, 0, none⟩ = some (.slice A n c)) (c3 : w.cell? ⟨p3, 0, none⟩ = some (.int .u32 seed)) :
    SeqP Try.prog 52 #[.pointer (some ⟨p1, 0, none⟩), .pointer (some ⟨p2, 0, none⟩), .pointer (some ⟨p3, 0, none⟩)] encE datE 7 (fun j => 0 < n ∧ ∃ ad, A = some ad ∧ j = ad.block) (scanI b base seed).1 w := by
  unfold scanI
  by_cases h : base < 1
  · rw [if_pos h]
    exact each1_low base p1 p2 p3 w h c1 _
  · rw [if_neg h]
    obtain ⟨bs, rfl⟩ := Int.eq_ofNat_of_zero_le (a := base) (by omega)
    subst hl
    exact each1_seq b A _ c bs seed p1 p2 p3 w rfl hn hc hr hsd (by omega) (by omega) c1 c2 c3

/-- a record's cells -/
def rcv (x : Nat × Value) : List Value := [.int .i64 x.1, x.2]
/-- two slices in two blocks -/
def DisV (x y : Value) : Prop := ∀ A n c A' n' c', x = .slice A n c → y = .slice A' n' c' → ∀ ad bd, A = some ad → A' = some bd → ad.block ≠ bd.block
/-- a list of records, of one's own; each one's bytes lie in a block of their own, below K -/
structure Rcs (B K : Nat) (w : World) (v : Value) (rs : List (Nat × List UInt8)) : Prop where
  ex : ∃ xs : List (Nat × Value), xs.length = rs.length ∧ w.ownsRow B 34 2 v rs.length (xs.flatMap rcv) ∧
    (∀ i (h : i < rs.length) (h' : i < xs.length), xs[i].1 = rs[i].1 ∧ ∃ A c, xs[i].2 = .slice A rs[i].2.length c ∧ Own B w A rs[i].2.length c rs[i].2 ∧ ∀ ad, A = some ad → ad.block < K) ∧
    xs.Pairwise fun x y => DisV x.2 y.2
theorem Try.infoR : (Try.prog.info? 34).map (fun i => (i.zero, i.size, i.bytes)) = some (some (.agg #[.int .i64 0, .slice none 0 0]), 2, 32) := by kernel_rfl
theorem Rcs.only {B K : Nat} {R : Nat → Prop} {w w1 : World} {v : Value} {ps : List (Nat × List UInt8)} (h : Rcs B K w v ps) (hO : Only R w w1) (hR : ∀ j, R j → j < B) : Rcs B K w1 v ps := by
  obtain ⟨xs, hl, hrow, hx, hd⟩ := h.ex
  refine ⟨xs, hl, ?_, fun i hi hi' => ?_, hd⟩
  · refine ⟨hrow.1, ?_⟩
    rcases hrow.2 with hn | ⟨g, cap, cur, hv, hbg, hg, r⟩
    · exact .inl hn
    · exact .inr ⟨g, cap, cur, hv, hbg, hO.row (fun hr => by have := hR g hr; omega) hg, r⟩
  · obtain ⟨h1, A, c, h3, ho, hk⟩ := hx i hi hi'
    exact ⟨h1, A, c, h3, hO.own (fun ad ha hr => by have := hR _ hr; have := (ho.lt ad ha).1; omega) ho, hk⟩
theorem Rcs.mono {B B' K K' : Nat} {w : World} {v : Value} {ps : List (Nat × List UInt8)} (h : Rcs B K w v ps) (hB : B' ≤ B) (hK : K ≤ K') : Rcs B' K' w v ps := by
  obtain ⟨xs, hl, hrow, hx, hd⟩ := h.ex
  refine ⟨xs, hl, ⟨hrow.1, ?_⟩, fun i hi hi' => ?_, hd⟩
  · rcases hrow.2 with hn | ⟨g, cap, cur, hv, hbg, r⟩
    · exact .inl hn
    · exact .inr ⟨g, cap, cur, hv, Nat.le_trans hB hbg, r⟩
  · obtain ⟨h1, A, c, h3, ho, hk⟩ := hx i hi hi'
    exact ⟨h1, A, c, h3, ho.mono hB, fun ad ha => Nat.lt_of_lt_of_le (hk ad ha) hK⟩
theorem Rcs.push {B K K' : Nat} {w8 w9 : World} {v v9 : Value} {ps : List (Nat × List UInt8)} {xs : List (Nat × Value)} {L n6 c6 : Nat} {A6 : Option Addr} {rb : List UInt8}
    (hxl : xs.length = ps.length) (hrow : w8.ownsRow B 34 2 v ps.length (xs.flatMap rcv))
    (hxs : ∀ i (h : i < ps.length) (h' : i < xs.length), xs[i].1 = ps[i].1 ∧ ∃ A c, xs[i].2 = .slice A ps[i].2.length c ∧ Own B w8 A ps[i].2.length c ps[i].2 ∧ ∀ ad, A = some ad → ad.block < K) (hxd : xs.Pairwise fun x y => DisV x.2 y.2)
    (ho : Own B w8 A6 n6 c6 rb) (hK6 : ∀ ad, A6 = some ad → K ≤ ad.block ∧ ad.block < K') (hKK : K ≤ K') {o : Obj} (hg9 : (w8.alloc o).grownBy w9 v.ownBlock) (hrow9 : w9.ownsRow B 34 2 v9 (ps.length + 1) (xs.flatMap rcv ++ rcv (L, .slice A6 n6 c6))) :
    Rcs B K' w9 v9 (ps ++ [(L, rb)]) := by
  have hba : Below w8.heap.size w8 (w8.alloc o) := (Below.refl _ _).alloc (Nat.le_refl _) _
  have hn := ho.len
  subst hn
  have hk : ∀ {A : Option Addr} {m c : Nat} {d : List UInt8}, Own B w8 A m c d → Own B w9 A m c d := fun h =>
    (h.keep hba).grown hg9 (own_ne_row hrow h (by decide))
  refine ⟨xs ++ [(L, .slice A6 rb.length c6)], by simp [hxl], by simpa [List.flatMap_append] using hrow9, fun i h h' => ?_, ?_⟩
  · by_cases hi : i < ps.length
    · obtain ⟨h1, A, c, h3, h4, h5⟩ := hxs i hi (by omega)
      rw [List.getElem_append_left hi, List.getElem_append_left (by omega)]
      exact ⟨h1, A, c, h3, hk h4, fun ad ha => Nat.lt_of_lt_of_le (h5 ad ha) hKK⟩
    · have hi' : i = ps.length := by simp at h; omega
      subst hi'
      rw [List.getElem_append_right (by omega), List.getElem_append_right (by omega)]
      simp only [hxl, Nat.sub_self, List.getElem_cons_zero]
      exact ⟨trivial, A6, c6, rfl, hk ho, fun ad ha => (hK6 ad ha).2⟩
  · rw [List.pairwise_append]
    refine ⟨hxd, List.pairwise_singleton _ _, fun a ha b hb => ?_⟩
    rw [List.mem_singleton.1 hb]
    obtain ⟨i, hi, rfl⟩ := List.getElem_of_mem ha
    obtain ⟨_, A, c, h3, _, h5⟩ := hxs i (by omega) hi
    intro A1 n1 c1 A2 n2 c2 e1 e2 ad bd ha1 ha2
    rw [h3] at e1
    injection e1 with e1 _ _
    injection e2 with e2 _ _
    have h6 := h5 ad (e1.trans ha1)
    have h7 := (hK6 bd (e2.trans ha2)).1
    omega
def RecsP (w : World) (rs : List (Nat × List UInt8)) (e : Ending) (w' : World) : Prop := ∃ v, e = .returned v ∧ Rcs w.heap.size w'.heap.size w' v rs ∧ Below w.heap.size w w'

set_option maxRecDepth 100000 in
theorem recs_low (A : Option Addr) (n c : Nat) (base seed most : Int) (w : World) (hm : most < 1) :
    Calls Try.prog 31 #[.slice A n c, .int .i64 base, .int .u32 seed, .int .i64 most] w (RecsP w []) := by
  have hb1 : decide (most < 1) = true := by simp; omega
  go_enter Try.func31, Try.ntmps31
  go_wp2
  go_ret
  exact ⟨_, rfl, ⟨[], rfl, World.ownsRow_nil _ _ _ _, fun i h => absurd h (Nat.not_lt_zero _), List.Pairwise.nil⟩, ((Below.refl _ _).alloc (Nat.le_refl _) _).alloc (by simp) _⟩

theorem Own.low' {B B' n c : Nat} {w : World} {A : Option Addr} {l : List UInt8} (h : Own B' w A n c l) (hl : ∀ ad, A = some ad → B ≤ ad.block) : Own B w A n c l := by
  refine ⟨h.1, ?_⟩
  rcases h.2 with hn | ⟨g, cap, cur, hv, hbg, r⟩
  · exact .inl hn
  · exact .inr ⟨g, cap, cur, hv, hl ⟨g, 0, none⟩ (by injection hv), r⟩
theorem scanL_len (b : List UInt8) : ∀ (k : Nat) (s : Sc), s.fin ≤ b.length → (scanL b k s).1.length * 16 + s.fin ≤ b.length
  | 0, s, h => by simpa [scanL] using h
  | k + 1, s, h => by
    simp only [scanL]
    cases hs : scan1 b s with
    | inr y => simpa using h
    | inl x =>
      obtain ⟨L, d, s'⟩ := x
      obtain ⟨i1, _, _, _, _, _, i7, i8, _⟩ := scan1_inl hs
      have e : s'.fin = s.fin + (16 + d.length) := by rw [i8]
      have := scanL_len b k s' (by omega)
      simp only [List.length_cons]
      omega
theorem scanI_len (b : List UInt8) (base : Int) (seed : Nat) : (scanI b base seed).1.length * 16 ≤ b.length := by
  unfold scanI
  split
  · simp
  · have := scanL_len b (b.length + 1) ⟨0, 0, base.toNat, seed⟩ (Nat.zero_le _)
    simpa using this
/-- what Records keeps between two rounds -/
structure RI (w : World) (S most : Nat) (rs : List (Nat × List UInt8)) (i K : Nat) (V : World) : Prop where
  ex : ∃ v, V.heap[w.heap.size + 1]? = some (.cells #[v] 22 (0, 0)) ∧ Rcs (S + 9) K V v (rs.take i)
  cm : V.heap[w.heap.size]? = some (.cells #[.int .i64 most] 3 (0, 0))
  bl : Below w.heap.size w V
theorem RI.only {w V V' : World} {S most i K : Nat} {rs : List (Nat × List UInt8)} {R : Nat → Prop} (h : RI w S most rs i K V) (hS : w.heap.size + 2 ≤ S) (hO : Only R V V') (hR : ∀ j, R j → S ≤ j ∧ j < S + 9) : RI w S most rs i K V' := by
  obtain ⟨v, hv, hr⟩ := h.ex
  exact ⟨⟨v, hO.row (fun hr => by have := (hR _ hr).1; omega) hv, hr.only hO (fun j hj => (hR j hj).2)⟩, hO.row (fun hr => by have := (hR _ hr).1; omega) h.cm, h.bl.trans (hO.below h.bl.size fun j hj => by have := (hR _ hj).1; omega)⟩
theorem RI.push {w V3 w8 : World} {S most i g9 cp9 L m cc K K' : Nat} {xs : List (Nat × Nat × List UInt8)} {rs : List (Nat × List UInt8)} (hrs : rs = xs.map (·.2)) {v : Value} {ys : List (Nat × Value)} {A' : Option Addr} {o : Obj} (hi : i < xs.length) (hS2 : w.heap.size + 2 ≤ S) (h : RI w S most rs i K V3) (hL : L = xs[i].2.1)
    (hyl : ys.length = (rs.take i).length) (hrow : V3.ownsRow (S + 9) 34 2 v i (ys.flatMap rcv)) (htl : (rs.take i).length = i)
    (hys : ∀ j (h : j < (rs.take i).length) (h' : j < ys.length), ys[j].1 = (rs.take i)[j].1 ∧ ∃ A c, ys[j].2 = .slice A (rs.take i)[j].2.length c ∧ Own (S + 9) V3 A (rs.take i)[j].2.length c (rs.take i)[j].2 ∧ ∀ ad, A = some ad → ad.block < K) (hyd : ys.Pairwise fun x y => DisV x.2 y.2) (hKK : K ≤ K') (hK6 : ∀ ad, A' = some ad → K ≤ ad.block ∧ ad.block < K')
    (ho : Own (S + 9) V3 A' m cc (datE xs[i])) (hg9 : (V3.alloc o).grownBy w8 v.ownBlock) (hrow9 : w8.ownsRow (S + 9) 34 2 (.slice (some ⟨g9, 0, none⟩) (i + 1) cp9) (i + 1) (ys.flatMap rcv ++ rcv (L, .slice A' m cc)))
    (hO9 : Only (fun j => S + 9 ≤ j) V3 w8) (r9 : w8.heap[w.heap.size + 1]? = some (.cells #[v] 22 (0, 0))) : RI w S most rs (i + 1) K' (w8.setCell ⟨w.heap.size + 1, 0, none⟩ (.slice (some ⟨g9, 0, none⟩) (i + 1) cp9)) := by
  have hO := only_set w8 (w.heap.size + 1) 0 (.slice (some ⟨g9, 0, none⟩) (i + 1) cp9)
  have hp := Rcs.push (L := L) (ps := rs.take i) (rb := datE xs[i]) hyl (by rw [htl]; exact hrow) hys hyd ho hK6 hKK hg9 (by rw [htl]; exact hrow9)
  have ht : rs.take (i + 1) = rs.take i ++ [(L, datE xs[i])] := by
    subst hrs
    rw [take_snoc _ _ (by simpa using hi), hL]
    simp [datE]
  refine ⟨⟨_, heap_setCell_same w8 _ 0 _ _ _ r9, ?_⟩, hO.row (by omega) (hO9.row (by omega) h.cm), (h.bl.trans (hO9.below h.bl.size fun j hj => by omega)).trans (hO.below (Nat.le_trans h.bl.size hO9.size) fun j hj => by omega)⟩
  rw [ht]
  exact hp.only hO (fun j hj => by omega)

set_option maxRecDepth 100000 in
set_option maxHeartbeats 4000000 in
theorem recs_any (b : List UInt8) (A : Option Addr) (n c : Nat) (base : Int) (seed : Nat) (most : Nat) (w : World) (hl : b.length = n) (hn : n ≤ 100000000) (hr : Rd w A (bv b)) (hsd : seed < 4294967296)
    (g2 : base ≤ 9223372036854775807) (hm : 1 ≤ most) :
    Calls Try.prog 31 #[.slice A n c, .int .i64 base, .int .u32 seed, .int .i64 most] w (RecsP w (((scanI b base seed).1.take most).map (·.2))) := by
  have hb1 : decide ((most : Int) < 1) = false := by simp; omega
  obtain ⟨W2, hW2⟩ : ∃ W2, W2 = ((w.alloc (Obj.cells #[.int .i64 most] 3)).alloc (Obj.cells #[.slice none 0 0] 22)) := ⟨_, rfl⟩
  have hb2 : Below w.heap.size w W2 := by rw [hW2]; exact ((Below.refl _ _).alloc (Nat.le_refl _) _).alloc (by simp) _
  have q0 : W2.heap[w.heap.size]? = some (.cells #[.int .i64 most] 3 (0, 0)) := by rw [hW2]; exact heap_alloc2_old w _ _
  have q1 : W2.heap[w.heap.size + 1]? = some (.cells #[.slice none 0 0] 22 (0, 0)) := by rw [hW2]; exact heap_alloc2_new w _ _
  have hz2 : W2.heap.size = w.heap.size + 2 := by rw [hW2]; simp
  refine callsIn_wide.1 (callsIn_of_wp_marks (n := 3) Try.func31 rfl trivial ?_ rfl)
  simp only [Try.ntmps31, List.size_toArray, List.length_cons, List.length_nil, Nat.reduceAdd, Nat.reduceSub, Array.replicate_succ, Array.replicate_zero, List.push_toArray, List.append_toArray, List.nil_append, List.cons_append]
  have HW := Lib.hid hW2
  have hr2 := hr.keep hb2
  clear hW2
  gi_wp2_with (refine ⟨trivial, ?_⟩; gi_at_call 34; rw [← HW.out]; refine (callsIn_wide.2 (each_any b A n c base seed W2 hl hn hr2)).mono ?_; rintro e w9 ⟨p2, A1, c1, rfl, hE⟩)
  obtain ⟨S, hS⟩ : ∃ S, S = w9.heap.size := ⟨_, rfl⟩
  have hz9 := hE.bl.size
  have hS2 : w.heap.size + 2 ≤ S := by omega
  have hc1 := hE.own.cap_le
  have hsq := each1_all b A1 n c1 base seed W2.heap.size p2 (W2.heap.size + 1) w9 hl hn hc1 hE.own.rd hsd g2 hE.cb hE.co hE.cs
  rw [show w.heap.size + 2 = W2.heap.size from hz2.symm]
  have hA1 := hE.own.lt
  have h0 : RI w S most ((scanI b base seed).1.map (·.2)) 0 0 w9 := ⟨⟨_, (hE.bl.block _ (by omega)).trans q1, ⟨[], rfl, World.ownsRow_nil _ _ _ _, fun i h => absurd h (Nat.not_lt_zero _), List.Pairwise.nil⟩⟩, (hE.bl.block _ (by omega)).trans q0, thn hb2 hE.bl⟩
  have hlen : (scanI b base seed).1.length ≤ 100000000 := by have := scanI_len b base seed; omega
  generalize hxs : (scanI b base seed).1 = xs at *
  have HXS := Lib.hid hxs
  have HS := Lib.hid hS
  have HZ2 := Lib.hid hz2
  clear hxs hS hz2 hE hr2 HW
  refine wp_rangeP (gf := 52) rfl (enters_of Try.func52 (by kernel_rfl) rfl) hsq (fun _ _ => rfl) (fun i V => ∃ K, K ≤ V.heap.size ∧ RI w S most (xs.map (·.2)) i K V ∧ i < most)
    (fun c i V => c = .exit 0 ∧ (∃ K, K ≤ V.heap.size ∧ RI w S most (xs.map (·.2)) i K V) ∧ i = most) ⟨0, Nat.zero_le _, h0, by omega⟩
    (fun x v W1 a' W2' => W2'.heap[W1.heap.size]? = some (.cells #[.int .i64 x.2.1, v] 34 (0, 0)) ∧ a'.defers = [] ∧ ∃ u0 u1 u2 u3 u17 u18 u19, a'.tmps = #[u0, u1, u2, u3, undef, undef, undef, .pointer (some ⟨w.heap.size, 0, none⟩), .slice none 0 0, .pointer (some ⟨w.heap.size + 1, 0, none⟩), undef, .pointer (some ⟨W1.heap.size, 0, none⟩), .int .i64 most, .bool false, u0, u1, u2, u17, u18, u19, undef, undef, undef, undef, undef, undef, undef, undef, undef]) ?assign ?body ?kp ?done ?stop
  case assign =>
    intro l x A' m' cc' W1
    simp only [encE]
    gi_wp2
    exact ⟨(Below.refl _ _).alloc (Nat.le_refl _) _, heap_alloc_new _ _, trivial, _, _, _, _, _, _, _, rfl⟩
  case body =>
    rintro l' i A' m cc V0 V1 V2 V3 a' hi ⟨K, hK0, hI, him⟩ hle hO hsz ho hlow hb ⟨hx, hd, u0, u1, u2, u3, u17, u18, u19, ht⟩ hO3
    obtain ⟨tmps, defers⟩ := a'
    simp only at hd ht
    subst hd
    subst ht
    have hK6 : ∀ ad, A' = some ad → K ≤ ad.block ∧ ad.block < V3.heap.size := fun ad ha => by
      have h1 := (ho.lt ad ha)
      have h2 := hb.size
      have h3 := hO3.size
      omega
    have hKK : K ≤ V3.heap.size := by have h1 := hO.size; have h2 := hb.size; have h3 := hO3.size; omega
    have hS := HS.out
    rw [← hS] at hO hO3 hsz hlow
    have hI1 := hI.only hS2 hO (fun j hj => ⟨by have := hj.1; omega, by have := hj.2; omega⟩)
    have hI2 := hI1.only hS2 (R := fun _ => False) (Only.of_below hb) (fun _ h => h.elim)
    have hI3 := hI2.only hS2 hO3 (fun j hj => by omega)
    have x3 := hO3.row (g := V1.heap.size) (by omega) hx
    have ho3 : Own (S + 9) V3 A' m cc (datE xs[i]) := (hO3.own (fun ad ha hr => by have := hlow ad ha; omega) (ho.keep hb)).low' (fun ad ha => by have := hlow ad ha; omega)
    have hs3 : S + 9 ≤ V3.heap.size := by have := hO3.size; have := hb.size; omega
    obtain ⟨v, hv, hrc⟩ := hI3.ex
    obtain ⟨ys, hyl, hrow, hys, hyd⟩ := hrc.ex
    have HYD := Lib.hid hyd
    have HK6 := Lib.hid hK6
    clear hyd hK6
    have htl : ((xs.map (·.2)).take i).length = i := by rw [List.length_take, List.length_map]; omega
    rw [htl] at hrow
    obtain ⟨iR, hiR, hzR, hsR, hbR⟩ := info_parts Try.infoR
    have z0 := cell_of_row _ _ 0 _ _ _ x3
    have z1 := cell_of_row _ _ 1 _ _ _ x3
    have cl := cell_of_row _ _ 0 _ _ _ hv
    have fl := frozen_of_row _ _ 0 _ _ hv
    have cm := cell_of_row _ _ 0 _ _ _ hI3.cm
    have HHI := Lib.hid hiR
    have HHZ := Lib.hid hzR
    have HHS := Lib.hid hsR
    have HHB := Lib.hid hbR
    have HYL := Lib.hid hyl
    have HYS := Lib.hid hys
    have HTL := Lib.hid htl
    clear hO hb hO3 hI hI1 hI2 hx ho hlow hiR hzR hsR hbR hyl hys htl hS
    by_cases hmm : i + 1 = most
    · have hmb : ((i : Int) + 1 == (most : Int)) = true := by simp; omega
      have HM := Lib.hid hmm
      clear hmm
      gi_wp2_with (first
        | (gi_at_builtin; refine wpListIn_append_own _ rfl (.tmp 20) (.tmp 22) 22 rfl (S + 9) 34 iR _ 2 32 Try.underlying22 HHI.out HHZ.out HHS.out HHB.out rfl (by decide) _ i _ rfl (Only.rows' (Only.of_below ((Below.refl _ _).alloc (Nat.le_refl _) _)) hrow) ⟨V3.heap.size, 0, none⟩ 1 1 (rcv (xs[i].2.1, .slice A' m cc)) rfl rfl (World.news_of_block (heap_alloc_new V3 _)) (by intro u hu; simp [rcv] at hu; rcases hu with rfl | rfl <;> rfl) (by simp only [maxLen]; omega) (by omega) (by simp; omega) ?_; intro v9 w8 hrow9 hg9 _
           obtain ⟨g9, cp9, rfl⟩ := ownsRow_succ hrow9
           have hO9 : Only (fun j => S + 9 ≤ j) V3 w8 := Only.trans (R' := fun j => some j = v.ownBlock) (Only.of_below ((Below.refl _ _).alloc (Nat.le_refl _) _)) (Only.of_grown hg9 fun j h => h.symm) (fun j _ h => own_low hrow h.symm)
           have r9 := hO9.row (g := w.heap.size + 1) (by omega) hv
           have r8 := hO9.row (g := w.heap.size) (by omega) hI3.cm
           have k0 := cell_of_row _ _ 0 _ _ _ r9
           have l0 := frozen_of_row _ _ 0 _ _ r9
           have km := cell_of_row _ _ 0 _ _ _ r8))
      have hP := RI.push rfl hi hS2 hI3 rfl HYL.out hrow HTL.out HYS.out HYD.out hKK HK6.out ho3 hg9 hrow9 hO9 r9
      have hK : KeepsR (fun j => pr w9.heap.size (2 + 7) j ∨ 0 < n ∧ ∃ ad, A1 = some ad ∧ j = ad.block) V3 (w8.setCell ⟨w.heap.size + 1, 0, none⟩ (.slice (some ⟨g9, 0, none⟩) (i + 1) cp9)) := by
        have hO2 := Only.trans (R := fun j => j = w.heap.size + 1 ∨ S + 9 ≤ j) (only_le hO9 fun j _ h => .inr h) (only_set w8 (w.heap.size + 1) 0 (.slice (some ⟨g9, 0, none⟩) (i + 1) cp9)) (fun j _ h => .inl h)
        refine ⟨hO2.size, fun j hj => ?_⟩
        have hS := HS.out
        have hZ := HZ2.out
        rcases hj with hj | ⟨_, ad, ha, rfl⟩
        · exact hO2.block j (by have := hj.2; omega) (by have := hj.1; have := hj.2; omega)
        · have := hA1 ad ha
          exact hO2.block _ (by omega) (by omega)
      exact ⟨hK, rfl, ⟨_, Nat.le_trans (hO9.size) (only_set w8 (w.heap.size + 1) 0 _).size, hP⟩, HM.out⟩
    · have hmb : ((i : Int) + 1 == (most : Int)) = false := by simp; omega
      have HM := Lib.hid hmm
      clear hmm
      gi_wp2_with (first
        | (gi_at_builtin; refine wpListIn_append_own _ rfl (.tmp 20) (.tmp 22) 22 rfl (S + 9) 34 iR _ 2 32 Try.underlying22 HHI.out HHZ.out HHS.out HHB.out rfl (by decide) _ i _ rfl (Only.rows' (Only.of_below ((Below.refl _ _).alloc (Nat.le_refl _) _)) hrow) ⟨V3.heap.size, 0, none⟩ 1 1 (rcv (xs[i].2.1, .slice A' m cc)) rfl rfl (World.news_of_block (heap_alloc_new V3 _)) (by intro u hu; simp [rcv] at hu; rcases hu with rfl | rfl <;> rfl) (by simp only [maxLen]; omega) (by omega) (by simp; omega) ?_; intro v9 w8 hrow9 hg9 _
           obtain ⟨g9, cp9, rfl⟩ := ownsRow_succ hrow9
           have hO9 : Only (fun j => S + 9 ≤ j) V3 w8 := Only.trans (R' := fun j => some j = v.ownBlock) (Only.of_below ((Below.refl _ _).alloc (Nat.le_refl _) _)) (Only.of_grown hg9 fun j h => h.symm) (fun j _ h => own_low hrow h.symm)
           have r9 := hO9.row (g := w.heap.size + 1) (by omega) hv
           have r8 := hO9.row (g := w.heap.size) (by omega) hI3.cm
           have k0 := cell_of_row _ _ 0 _ _ _ r9
           have l0 := frozen_of_row _ _ 0 _ _ r9
           have km := cell_of_row _ _ 0 _ _ _ r8))
      have hP := RI.push rfl hi hS2 hI3 rfl HYL.out hrow HTL.out HYS.out HYD.out hKK HK6.out ho3 hg9 hrow9 hO9 r9
      have hK : KeepsR (fun j => pr w9.heap.size (2 + 7) j ∨ 0 < n ∧ ∃ ad, A1 = some ad ∧ j = ad.block) V3 (w8.setCell ⟨w.heap.size + 1, 0, none⟩ (.slice (some ⟨g9, 0, none⟩) (i + 1) cp9)) := by
        have hO2 := Only.trans (R := fun j => j = w.heap.size + 1 ∨ S + 9 ≤ j) (only_le hO9 fun j _ h => .inr h) (only_set w8 (w.heap.size + 1) 0 (.slice (some ⟨g9, 0, none⟩) (i + 1) cp9)) (fun j _ h => .inl h)
        refine ⟨hO2.size, fun j hj => ?_⟩
        have hS := HS.out
        have hZ := HZ2.out
        rcases hj with hj | ⟨_, ad, ha, rfl⟩
        · exact hO2.block j (by have := hj.2; omega) (by have := hj.1; have := hj.2; omega)
        · have := hA1 ad ha
          exact hO2.block _ (by omega) (by omega)
      exact ⟨hK, _, Nat.le_trans (hO9.size) (only_set w8 (w.heap.size + 1) 0 _).size, hP, by have := HM.out; omega⟩
  case kp =>
    rintro j ⟨_, ad, ha, rfl⟩
    exact (hA1 ad ha).2
  case done =>
    rintro V0 V ⟨K, hK0, hI, hlt⟩ hle hO hk
    rw [← HS.out] at hO
    have hI1 := hI.only hS2 hO (fun j hj => ⟨by have := hj.1; omega, by have := hj.2; omega⟩)
    obtain ⟨v, hv, hrc⟩ := hI1.ex
    have cl := cell_of_row _ _ 0 _ _ _ hv
    gi_wp2
    refine bodyPostM_ret rfl hk (results_tmp rfl _ _ _) ⟨v, rfl, ?_, ?_⟩
    · rw [HXS.out, List.map_take, show (xs.map (·.2)).take most = (xs.map (·.2)).take xs.length from by rw [List.take_of_length_le (by rw [List.length_map]; omega), List.take_of_length_le (by rw [List.length_map]; omega)]]
      exact (hrc.only (only_putObj V w9.heap.size (.deferred none)) (fun j hj => by have := HS.out; omega)).mono (by omega) (by rw [World.putObj_size]; have := hO.size; omega)
    · exact hI1.bl.trans ((only_putObj V w9.heap.size (.deferred none)).below hI1.bl.size (fun j hj => by have := HS.out; omega))
  case stop =>
    rintro c' i V0 V hi0 hil ⟨rfl, ⟨K, hK0, hI⟩, rfl⟩ hle hO hk
    rw [← HS.out] at hO
    have hI1 := hI.only hS2 hO (fun j hj => ⟨by have := hj.1; omega, by have := hj.2; omega⟩)
    obtain ⟨v, hv, hrc⟩ := hI1.ex
    have cl := cell_of_row _ _ 0 _ _ _ hv
    gi_wp2
    refine bodyPostM_ret rfl hk (results_tmp rfl _ _ _) ⟨v, rfl, ?_, ?_⟩
    · rw [HXS.out, List.map_take]
      exact (hrc.only (only_putObj V w9.heap.size (.deferred none)) (fun j hj => by have := HS.out; omega)).mono (by omega) (by rw [World.putObj_size]; have := hO.size; omega)
    · exact hI1.bl.trans ((only_putObj V w9.heap.size (.deferred none)).below hI1.bl.size (fun j hj => by have := HS.out; omega))
end Go.Proofs.Ytdfabjkffjacoaa
