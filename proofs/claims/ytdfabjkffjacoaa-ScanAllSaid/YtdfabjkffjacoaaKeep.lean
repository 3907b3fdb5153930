/- Walks: flumelaw1.Room, Bytes.Keep. -/
import Derived.Test.YtdfabjkffjacoaaLent
import Derived.Test.YtdfabjkffjacoaaOnly
import Derived.Deep.RegionLaw
import Derived.Deep.QuietTactic
import Derived.BigQuiet
namespace Go.Proofs.Ytdfabjkffjacoaa
open Go.RowKit

set_option maxRecDepth 100000 in
theorem room_any (n all : Nat) (hn : n ≤ 1000000000000) (w : World) :
    Calls Try.prog 42 #[.int .i64 n, .int .i64 all] w fun e w' => e = .returned (.int .i64 (min all (n + 5000) : Nat)) ∧ w' = w := by

  go_enter Try.func42, Try.ntmps42
  go_wp2
  all_goals go_ret
  · exact ⟨by rw [show min all (n + 5000) = n + 5000 from by omega]; go_num, rfl⟩
  · exact ⟨by rw [show min all (n + 5000) = all from by omega]; rfl, rfl⟩

theorem room_quiet (n all : Nat) (hn : n ≤ 1000000000000) (w : World) (k : Nat) :
    Calls Try.prog 42 #[.int .i64 n, .int .i64 all] (w.drewN k) fun e w'' => e = .returned (.int .i64 (min all (n + 5000) : Nat)) ∧ ∃ m, w'' = w.drewN m :=
  Calls.quiet_of_same (room_any n all hn _)

theorem below_alloc_drew (w : World) (o : Obj) : Below w.heap.size w (w.alloc o).drew := ⟨rfl, rfl, rfl, by simp, fun j hj => Below.heap_alloc w _ j hj⟩

/-- a list of bytes that is kept: its slice, and what it holds -/
structure Ent where
  A : Option Addr
  n : Nat
  c : Nat
  l : List UInt8
def Ent.val (e : Ent) : Value := .slice e.A e.n e.c
def Dis (a b : Ent) : Prop := ∀ ad bd, a.A = some ad → b.A = some bd → ad.block ≠ bd.block
def Ent.off (e : Ent) (R : Nat → Prop) : Prop := ∀ ad, e.A = some ad → ¬ R ad.block

/-- the two rows of a keeper: itself, and its list -/
def PL (p : Nat) (L : Option Addr) : Nat → Prop := fun j => j = p ∨ ∃ bd, L = some bd ∧ j = bd.block

structure KeptL (B : Nat) (w : World) (p : Nat) (L : Option Addr) (m mc : Nat) (sz : Int) (es : List Ent) : Prop where
  blk : w.heap[p]? = some (.cells #[.slice L m mc, .int .i64 sz] 30 (0, 0))
  own : w.ownsRow B 31 1 (.slice L m mc) m (es.map Ent.val)
  len : es.length = m
  each : ∀ e ∈ es, Own B w e.A e.n e.c e.l
  off : ∀ e ∈ es, e.off (PL p L)
  dis : es.Pairwise Dis
  lp : ∀ bd, L = some bd → bd.block ≠ p
  low : B ≤ p
theorem KeptL.only {B p m mc : Nat} {w w' : World} {L : Option Addr} {sz : Int} {es : List Ent} {R : Nat → Prop} (h : KeptL B w p L m mc sz es) (hO : Only R w w') (hp : ¬ R p) (hL : ∀ bd, L = some bd → ¬ R bd.block) (he : ∀ e ∈ es, e.off R) : KeptL B w' p L m mc sz es :=
  ⟨hO.row hp h.blk, hO.rows hL h.own, h.len, fun e hm => hO.own (he e hm) (h.each e hm), h.off, h.dis, h.lp, h.low⟩
theorem KeptL.keep {B p m mc : Nat} {w w' : World} {L : Option Addr} {sz : Int} {es : List Ent} (h : KeptL B w p L m mc sz es) (hb : Below w.heap.size w w') : KeptL B w' p L m mc sz es :=
  h.only (R := fun _ => False) (Only.of_below hb) (fun h => h) (fun _ _ h => h) (fun _ _ _ _ h => h)
theorem KeptL.lt {B p m mc : Nat} {w : World} {L : Option Addr} {sz : Int} {es : List Ent} (h : KeptL B w p L m mc sz es) : p < w.heap.size := (Array.getElem?_eq_some_iff.1 h.blk).1
theorem KeptL.Llt {B p m mc : Nat} {w : World} {L : Option Addr} {sz : Int} {es : List Ent} (h : KeptL B w p L m mc sz es) : ∀ bd, L = some bd → B ≤ bd.block ∧ bd.block < w.heap.size := fun bd hL => by
  subst hL
  exact World.ownsRow.lt h.own bd.block rfl

theorem KeptL.resize {B p m mc : Nat} {w : World} {L : Option Addr} {sz : Int} {es : List Ent} (h : KeptL B w p L m mc sz es) (z : Int) : KeptL B (w.setCell ⟨p, 1, none⟩ (.int .i64 z)) p L m mc z es := by
  have hO := only_set w p 1 (.int .i64 z)
  exact ⟨heap_setCell_same w p 1 _ _ _ h.blk, hO.rows h.lp h.own, h.len, fun e hm => hO.own (fun ad ha hr => h.off e hm ad ha (.inl hr)) (h.each e hm), h.off, h.dis, h.lp, h.low⟩
/-- one more is kept: its list's row has grown (to g), the keeper holds it -/
theorem KeptL.push {B p m mc : Nat} {w w7 : World} {L : Option Addr} {sz : Int} {es : List Ent} (h : KeptL B w p L m mc sz es) (x : Ent) (g cap : Nat)
    (hg : Only (fun j => ∃ bd, L = some bd ∧ j = bd.block) w w7) (hrow : w7.ownsRow B 31 1 (.slice (some ⟨g, 0, none⟩) (m + 1) cap) (m + 1) (es.map Ent.val ++ [x.val]))
    (hat : (∃ bd, L = some bd ∧ g = bd.block) ∨ w.heap.size ≤ g) (hx : Own B w x.A x.n x.c x.l) (hxo : x.off (PL p L)) (hd : ∀ e ∈ es, Dis e x) :
    KeptL B (w7.setCell ⟨p, 0, none⟩ (.slice (some ⟨g, 0, none⟩) (m + 1) cap)) p (some ⟨g, 0, none⟩) (m + 1) cap sz (es ++ [x]) := by
  have hO := only_set w7 p 0 (.slice (some ⟨g, 0, none⟩) (m + 1) cap)
  have hgp : g ≠ p := by
    rcases hat with ⟨bd, hb, rfl⟩ | hlt
    · exact h.lp bd hb
    · have := h.lt; omega
  have hall : ∀ e ∈ es ++ [x], Own B w e.A e.n e.c e.l ∧ e.off (PL p L) := fun e he => by
    rcases List.mem_append.1 he with he | he
    · exact ⟨h.each e he, h.off e he⟩
    · rw [List.mem_singleton.1 he]; exact ⟨hx, hxo⟩
  have hb7 := hg.row (R := fun j => ∃ bd, L = some bd ∧ j = bd.block) (fun ⟨bd, hb, hp⟩ => h.lp bd hb hp.symm) h.blk
  refine ⟨heap_setCell_same w7 p 0 _ _ _ hb7, hO.rows (fun ad ha hr => by cases ha; exact hgp hr) (by simpa using hrow), by simp [h.len], fun e he => ?_, fun e he ad ha hr => ?_, ?_, fun bd hb => by cases hb; exact hgp, h.low⟩
  · obtain ⟨h1, h2⟩ := hall e he
    exact hO.own (fun ad ha hr => h2 ad ha (.inl hr)) (hg.own (fun ad ha hr => h2 ad ha (.inr hr)) h1)
  · obtain ⟨h1, h2⟩ := hall e he
    rcases hr with hr | ⟨bd, hb, hr⟩
    · exact h2 ad ha (.inl hr)
    · cases hb
      rcases hat with ⟨bd, hb, hgb⟩ | hlt
      · exact h2 ad ha (.inr ⟨bd, hb, hr.trans hgb⟩)
      · have := (h1.lt ad ha).2
        simp only at hr
        omega
  · rw [List.pairwise_append]
    exact ⟨h.dis, List.pairwise_singleton _ _, fun a ha b hb => by rw [List.mem_singleton.1 hb]; exact hd a ha⟩

theorem Try.infoS : (Try.prog.info? 31).map (fun i => (i.zero, i.size, i.bytes)) = some (some (.slice none 0 0), 1, 24) := by kernel_rfl

/-- append of one slice of bytes to a list of such, at a step of a drawing region -/
theorem wp_push {o : Oper} {a : Act} {K : Act → World → Prop} {Q : Exit → Act → World → Prop} {w : World} (s x : Operand)
    (ho : o.op = .call { callee := .builtin .append, args := #[s, x], argTypes := #[28, 28] })
    {B m mc bl : Nat} {L : Option Addr} {vs : List Value} {u : Value} (hs : a.eval s = .slice L m mc) (hx : a.eval x = .slice (some ⟨bl, 0, none⟩) 1 1)
    (hown : w.ownsRow B 31 1 (.slice L m mc) m vs) (hbl : w.cell? ⟨bl, 0, none⟩ = some u) (hu : u.oneCell' = true) (hm : m ≤ 5000000) (hB : B ≤ w.heap.size)
    (h : ∀ g cap w', w'.ownsRow B 31 1 (.slice (some ⟨g, 0, none⟩) (m + 1) cap) (m + 1) (vs ++ [u]) → Only (fun j => ∃ bd, L = some bd ∧ j = bd.block) w w' → ((∃ bd, L = some bd ∧ g = bd.block) ∨ g = w.heap.size) →
      K (a.put o.dst (.slice (some ⟨g, 0, none⟩) (m + 1) cap)) w') : Oper.wp Try.prog o a w K Q := by
  obtain ⟨i, hi, hz, hsi, hb⟩ := info_parts Try.infoS
  have hob : ∀ j, (Value.slice L m mc).ownBlock = some j → ∃ bd, L = some bd ∧ j = bd.block := fun j hj => by
    cases L with
    | none => cases hj
    | some bd => cases hj; exact ⟨bd, rfl, rfl⟩
  refine wp_append_lies w s x 28 ho B 31 i _ 1 24 Try.underlying28 hi hz hsi hb rfl (by decide) _ m _ hs hown ⟨bl, 0, none⟩ 1 1 [u] hx rfl ?_ (fun u' h => by rw [List.mem_singleton.1 h]; exact hu) (by decide) (by simp only [maxLen]; omega) (by omega) hB _ rfl ?_
  · intro j u' hj
    cases j with
    | zero => simp only [List.getElem?_cons_zero, Option.some.injEq] at hj; subst hj; rw [addr0]; exact hbl
    | succ j => simp at hj
  · intro g cap w' h1 h2 h3 _
    exact h g cap w' h1 (Only.of_grown h2 hob) (h3.imp_left fun e => hob g e)

/-- sizes: as many as there is room for -/
def SzOk (m : Nat) (sz : Int) (es : List Ent) : Prop := (m : Int) ≤ sz ∧ sz ≤ 4194304 ∧ ∀ e ∈ es, e.n ≤ 4194304

def NewL (w : World) (L L' : Option Addr) : Prop := ∀ bd, L' = some bd → (∃ b0, L = some b0 ∧ bd.block = b0.block) ∨ w.heap.size ≤ bd.block
def KeepP (B : Nat) (w : World) (p : Nat) (L : Option Addr) (es xs : List Ent) (e : Ending) (w' : World) : Prop :=
  e = .returned (.tuple #[]) ∧ ∃ L' m' mc' sz' es', KeptL B w' p L' m' mc' sz' es' ∧ SzOk m' sz' es' ∧ (∀ x ∈ es', x ∈ es ∨ x ∈ xs) ∧ Only (PL p L) w w' ∧ NewL w L L'


set_option maxRecDepth 100000 in
set_option maxHeartbeats 4000000 in
theorem keep_any (B p m mc : Nat) (L : Option Addr) (sz : Int) (es xs : List Ent) (D : Option Addr) (n c : Nat) (w : World) (hK : KeptL B w p L m mc sz es) (hS : SzOk m sz es) (hB : B ≤ w.heap.size)
    (hn : xs.length = n) (hn1 : n ≤ 1000000) (hD : Rd w D (xs.map Ent.val)) (hDo : ∀ ad, D = some ad → ¬ PL p L ad.block)
    (hxo : ∀ x ∈ xs, Own B w x.A x.n x.c x.l) (hxn : ∀ x ∈ xs, x.n ≤ 1000000000000) (hxf : ∀ x ∈ xs, x.off (PL p L)) (hxd : xs.Pairwise Dis) (hex : ∀ e ∈ es, ∀ x ∈ xs, Dis e x) :
    Calls Try.prog 19 #[.pointer (some ⟨p, 0, none⟩), .slice D n c] w (KeepP B w p L es xs) := by
  go_enter Try.func19, Try.ntmps19
  go_wp2
  go_loopw [4, 5] (fun i _ wr => ∃ (k : Nat) (L' : Option Addr) (m' mc' : Nat) (sz' : Int) (es' : List Ent), k ≤ n ∧ i = .int .i64 k ∧ KeptL B wr p L' m' mc' sz' es' ∧ SzOk m' sz' es' ∧ (∀ x ∈ es', x ∈ es ∨ x ∈ xs.take k) ∧ Only (PL p L) w wr ∧ NewL w L L') (fun i _ _ => n - (intOf i).toNat)
  case atStart => exact ⟨0, L, m, mc, sz, es, by omega, rfl, hK, hS, fun x hx => .inl hx, Only.refl _, fun bd h => .inl ⟨bd, h, rfl⟩⟩
  case round =>
    obtain ⟨k, L', m', mc', sz', es', hk, rfl, hK', hS', hmem, hO, hN⟩ := hrel
    by_cases hlt : k < n
    · have hkx : k < xs.length := by omega
      have hgx := List.getElem_mem hkx
      obtain ⟨ad, rfl, hcD⟩ := hD k (xs[k]).val (by rw [List.getElem?_map, List.getElem?_eq_getElem hkx]; rfl)
      have hcD' := hO.cell (by rw [block_of_add]; exact hDo ad rfl) hcD
      have hxo' := hO.own (fun a ha => hxf _ hgx a ha) (hxo _ hgx)
      have hxn' := hxn _ hgx
      have hxlt := hxo'.lt
      have hde : ∀ e ∈ es', Dis e xs[k] := fun e he => by
        rcases hmem e he with h | h
        · exact hex e h _ hgx
        · obtain ⟨j, hj, rfl⟩ := List.mem_take_iff_getElem.1 h
          exact List.pairwise_iff_getElem.1 hxd j k (by omega) hkx (by omega)
      have htk : xs.take (k + 1) = xs.take k ++ [xs[k]] := by rw [List.take_succ_eq_append_getElem hkx]
      have hoff : xs[k].off (PL p L') := fun a ha hR => by
        rcases hR with h | ⟨bd, hb, h⟩
        · exact hxf _ hgx a ha (.inl h)
        · rcases hN bd hb with ⟨b0, h0, h1⟩ | h1
          · exact hxf _ hgx a ha (.inr ⟨b0, h0, h.trans h1⟩)
          · have := (hxo _ hgx).lt a ha; omega
      generalize xs[k] = x at *
      obtain ⟨A, xn, xc, xl⟩ := x
      simp only [Ent.val] at *
      have c0 := cell_of_row _ _ 0 _ _ _ hK'.blk
      have c1 := cell_of_row _ _ 1 _ _ _ hK'.blk
      have f0 := frozen_of_row wr p 0 _ _ hK'.blk
      have f1 := frozen_of_row wr p 1 _ _ hK'.blk
      have hk0 : (0 : Int) ≤ (k : Int) := by omega
      have hk1 : (k : Int) < (n : Int) := by omega
      have hcc : xn ≤ xc := hxo'.cap_le
      have hgo : ∀ q, (∃ (k_1 : Nat) (L' : Option Addr) (m' mc' : Nat) (sz' : Int) (es' : List Ent), k_1 ≤ n ∧ Value.int .i64 ((k : Int) + 1) = .int .i64 k_1 ∧ KeptL B (wr.drewN q) p L' m' mc' sz' es' ∧ SzOk m' sz' es' ∧ (∀ x ∈ es', x ∈ es ∨ x ∈ xs.take k_1) ∧ Only (PL p L) w (wr.drewN q) ∧ NewL w L L') := fun q =>
        ⟨k + 1, L', m', mc', sz', es', by omega, by go_num, hK'.keep (drewN_below _ _ _), hS', fun e he => by
          rcases hmem e he with h | h
          · exact .inl h
          · exact .inr (by rw [htk]; exact List.mem_append_left _ h), hO.trans (Only.of_below (R := fun _ => False) (drewN_below _ _ _)) (fun _ _ h => h.elim), hN⟩
      have Hgo := Lib.hid hgo
      clear hgo
      by_cases hR0 : min xc (xn + 5000) = 0
      · have hb0 : (((min xc (xn + 5000) : Nat) : Int) == 0) = true := by rw [hR0]; rfl
        have hq := fun q => room_quiet xn xc hxn' wr q
        generalize min xc (xn + 5000) = R at *
        go_wp2_with fail
        go_quiet (first | (go_at_call 42; exact hq _))
        go_wp2_with fail
        exact ⟨Hgo.out nq, by simp [intOf]; omega⟩
      · have hb0 : (((min xc (xn + 5000) : Nat) : Int) == 0) = false := by simp; omega
        have hq := fun q => room_quiet xn xc hxn' wr q
        have hRn : xn ≤ min xc (xn + 5000) := by omega
        have hRm : min xc (xn + 5000) ≤ 1000000005000 := by omega
        generalize min xc (xn + 5000) = R at *
        have hsz := hS'.1
        have hsz2 := hS'.2.1
        have hwr : IntKind.i64.wrap (sz' + (R : Int)) = sz' + (R : Int) := by rw [IntKind.wrap_i64]; omega
        by_cases hbig : 4194304 < sz' + (R : Int)
        · go_wp2_with fail
          go_quiet (first | (go_at_call 42; exact hq _))
          go_wp2_with fail
          exact ⟨Hgo.out nq, by simp [intOf]; omega⟩
        · clear Hgo
          go_wp2_with fail
          go_quiet (first | (go_at_call 42; exact hq _))
          go_wp2_with fail
          have hKs := (hK'.keep (drewN_below _ wr nq)).resize (sz' + (R : Int))
          have hO6 : Only (PL p L) w ((wr.drewN nq).setCell ⟨p, 1, none⟩ (.int .i64 (sz' + (R : Int)))) :=
            (hO.trans (Only.of_below (R := fun _ => False) (drewN_below _ _ _)) (fun _ _ h => h.elim)).trans (only_set _ p 1 _) (fun j _ h => .inl h)
          have hxo6 := (only_set (wr.drewN nq) p 1 (.int .i64 (sz' + (R : Int)))).own (fun a ha hr => hoff a ha (.inl hr)) (hxo'.keep (drewN_below _ wr nq))
          have hadp : ad.block ≠ p := fun h => hDo ad rfl (.inl h)
          have hcD6 := (only_set (wr.drewN nq) p 1 (.int .i64 (sz' + (R : Int)))).cell (a := ad.add k) (by rw [block_of_add]; exact hadp) (keep_cell (drewN_below _ wr nq) hcD')
          have hw6 := hO.size
          have hw6' : wr.heap.size ≤ ((wr.drewN nq).setCell ⟨p, 1, none⟩ (.int .i64 (sz' + (R : Int)))).heap.size := by simp [World.setCell]
          clear c0 c1 f0 f1 hcD' hxo' hK' hO hq
          generalize ((wr.drewN nq).setCell ⟨p, 1, none⟩ (.int .i64 (sz' + (R : Int)))) = W6 at *
          have hplt := hKs.lt
          have c0 := cell_of_row _ _ 0 _ _ _ hKs.blk
          have f0 := frozen_of_row W6 p 0 _ _ hKs.blk
          have hLne : ∀ j, (Value.slice L' m' mc').ownBlock = some j → ∃ bd, L' = some bd ∧ j = bd.block := fun j hj => by
            cases L' with
            | none => cases hj
            | some bd => cases hj; exact ⟨bd, rfl, rfl⟩
          have hadL : ∀ bd, L' = some bd → ad.block ≠ bd.block := fun bd hb he => by
            rcases hN bd hb with ⟨b0, h0, h1⟩ | h1
            · exact hDo ad rfl (.inr ⟨b0, h0, he.trans h1⟩)
            · have := World.block_lt_of_cell? w _ hcD
              rw [block_of_add] at this
              omega
          obtain ⟨iS, hiS, hzS, hsS, hbS⟩ := info_parts Try.infoS
          have hm' := hS'.1
          have hB6 : B ≤ W6.heap.size := by have := hKs.low; omega
          have c0' := fun o => keep_cell (below_alloc_drew W6 o) c0
          have hcD7 := fun o => keep_cell (below_alloc_drew W6 o) hcD6
          go_region_law
            (first
              | (rw [if_pos (by rfl)]; refine wp_push (.tmp 47) (.tmp 52) rfl rfl rfl (Only.rows (R := fun _ => False) (Only.of_below (below_alloc_drew W6 _)) (fun _ _ h => h) hKs.own) (cell_of_row _ _ 0 _ _ _ (heap_alloc_new W6 _)) rfl (by omega) (Nat.le_trans hB6 (below_alloc_drew W6 _).size) ?_; intro g cap w7 hrow hgrow hat
                 have hS7 := hgrow.cell (a := ad.add k) (by rw [block_of_add]; rintro ⟨bd, hb, he⟩; exact hadL bd hb he) (keep_cell (below_alloc_drew W6 _) hcD6)
                 have hb7 := hgrow.row (g := p) (by rintro ⟨bd, hb, he⟩; exact hKs.lp bd hb he.symm) ((below_alloc_drew W6 (Obj.cells #[.slice A xn xc] 31)).block _ hplt |>.trans hKs.blk)
                 have c7 := cell_of_row _ _ 0 _ _ _ hb7
                 have f7 := frozen_of_row _ p 0 _ _ hb7))
          all_goals
            have hPL : ∀ j, (∃ bd, L' = some bd ∧ j = bd.block) → PL p L j ∨ w.heap.size ≤ j := by
              rintro j ⟨bd, hb, rfl⟩
              rcases hN bd hb with ⟨b0, h0, h1⟩ | h1
              · exact .inl (.inr ⟨b0, h0, h1⟩)
              · exact .inr h1
            have hO67 : Only (fun j => ∃ bd, L' = some bd ∧ j = bd.block) W6 w7 := Only.trans (R' := fun j => ∃ bd, L' = some bd ∧ j = bd.block) (Only.of_below (below_alloc_drew W6 _)) hgrow (fun j _ h => h)
            have hgW : (∃ bd, L' = some bd ∧ g = bd.block) ∨ W6.heap.size ≤ g := hat.imp_right fun h => by have h' := h; first | omega | (simp at h'; omega)
            have hKn := hKs.push ⟨A, xn, xc, xl⟩ g cap hO67 hrow hgW hxo6 hoff hde
            go_wp2_with fail
            have hz1 : ((m' + 1 : Nat) : Int) ≤ sz' + (R : Int) := by have hR1 : 1 ≤ R := Nat.pos_of_ne_zero hR0; push_cast; exact Int.add_le_add hsz (by exact_mod_cast hR1)
            have hz2 : sz' + (R : Int) ≤ 4194304 := hbig
            have hgat : (∃ bd, L' = some bd ∧ g = bd.block) ∨ w.heap.size ≤ g := hgW.imp_right fun h => Nat.le_trans (Nat.le_trans hw6 hw6') h
            refine ⟨⟨k + 1, some ⟨g, 0, none⟩, m' + 1, cap, sz' + (R : Int), es' ++ [⟨A, xn, xc, xl⟩], by omega, by go_num, hKn, ⟨hz1, hz2, fun e he => ?_⟩, fun e he => ?_, ?_, fun bd hb => ?_⟩, by simp [intOf]; omega⟩
            · rcases List.mem_append.1 he with he | he
              · exact hS'.2.2 e he
              · rw [List.mem_singleton.1 he]; simp only; omega
            · rcases List.mem_append.1 he with he | he
              · rcases hmem e he with h | h
                · exact .inl h
                · exact .inr (by rw [htk]; exact List.mem_append_left _ h)
              · exact .inr (by rw [htk]; exact List.mem_append_right _ he)
            · refine (hO6.trans hO67 fun j hj h => ?_).trans (only_set w7 p 0 _) (fun j _ h => .inl h)
              rcases hPL j h with h | h
              · exact h
              · omega
            · cases hb
              rcases hgat with ⟨bd, hb, hgb⟩ | h
              · rcases hN bd hb with ⟨b0, h0, h1⟩ | h1
                · exact .inl ⟨b0, h0, hgb.trans h1⟩
                · exact .inr (by rw [show (⟨g, 0, none⟩ : Addr).block = g from rfl, hgb]; exact h1)
              · exact .inr h
    · go_wp2_with fail
      go_end0
      exact ⟨rfl, L', m', mc', sz', es', hK', hS', fun x hx => (hmem x hx).imp_right fun h => List.mem_of_mem_take h, hO, hN⟩
end Go.Proofs.Ytdfabjkffjacoaa
