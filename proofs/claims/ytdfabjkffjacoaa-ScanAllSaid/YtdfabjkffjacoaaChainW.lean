/- Walk: flumelaw6.FrameChain. -/
import Derived.Test.YtdfabjkffjacoaaBackW
import Derived.Deep.RegionHeld3
import Derived.Deep.QuietTactic
import Derived.BigQuiet
namespace Go.Proofs.Ytdfabjkffjacoaa
open Go.RowKit

/-- a slice of slices of bytes -/
structure Datas (w : World) (A : Option Addr) (n : Nat) (vs : List Value) (ls : List (List UInt8)) : Prop where
  vlen : vs.length = n
  llen : ls.length = n
  rd : Rd w A vs
  each : ∀ i (h : i < ls.length), ∃ B c, vs[i]? = some (.slice B ls[i].length c) ∧ ls[i].length ≤ c ∧ c ≤ 9223372036854775807 ∧ Rd w B (bv ls[i])
theorem Datas.keep {w w' : World} {A : Option Addr} {n : Nat} {vs : List Value} {ls : List (List UInt8)} (h : Datas w A n vs ls) (hb : Below w.heap.size w w') : Datas w' A n vs ls :=
  ⟨h.vlen, h.llen, h.rd.keep hb, fun i hi => by
    obtain ⟨B, c, h1, h2, h3, h4⟩ := h.each i hi
    exact ⟨B, c, h1, h2, h3, h4.keep hb⟩⟩
theorem Datas.at_ {w : World} {A : Option Addr} {n : Nat} {vs : List Value} {ls : List (List UInt8)} (h : Datas w A n vs ls) (k : Nat) (hk : k < ls.length) :
    ∃ ad B c, A = some ad ∧ w.cell? (ad.add k) = some (.slice B ls[k].length c) ∧ ls[k].length ≤ c ∧ c ≤ 9223372036854775807 ∧ Rd w B (bv ls[k]) := by
  obtain ⟨B, c, h1, h2, h3, h4⟩ := h.each k hk
  obtain ⟨ad, hA, hc⟩ := h.rd k _ h1
  exact ⟨ad, B, c, hA, hc, h2, h3, h4⟩

def chainS (s base : Nat) : List (List UInt8) → Nat
  | [] => s
  | d :: ds => chainS (fsum s base d) (base + 1) ds
def chainB (s base : Nat) : List (List UInt8) → List UInt8
  | [] => []
  | d :: ds => frameB s base d ++ chainB (fsum s base d) (base + 1) ds
theorem chainS_snoc (s base : Nat) (ds : List (List UInt8)) (d : List UInt8) : chainS s base (ds ++ [d]) = fsum (chainS s base ds) (base + ds.length) d := by
  induction ds generalizing s base with
  | nil => rfl
  | cons x ds ih => simp only [List.cons_append, chainS, ih, List.length_cons]; rw [show base + 1 + ds.length = base + (ds.length + 1) from by omega]
theorem chainB_snoc (s base : Nat) (ds : List (List UInt8)) (d : List UInt8) : chainB s base (ds ++ [d]) = chainB s base ds ++ frameB (chainS s base ds) (base + ds.length) d := by
  induction ds generalizing s base with
  | nil => simp [chainB, chainS]
  | cons x ds ih => simp only [List.cons_append, chainB, chainS, ih, List.length_cons, List.append_assoc]; rw [show base + 1 + ds.length = base + (ds.length + 1) from by omega]
theorem chainS_lt (s base : Nat) (ds : List (List UInt8)) (h : s < 4294967296) : chainS s base ds < 4294967296 := by
  induction ds generalizing s base with
  | nil => exact h
  | cons x ds ih => exact ih _ _ (fsum_lt _ _ _)
theorem chainB_app (s base : Nat) (a b : List (List UInt8)) : chainB s base (a ++ b) = chainB s base a ++ chainB (chainS s base a) (base + a.length) b := by
  induction a generalizing s base with
  | nil => simp [chainB, chainS]
  | cons x a ih => simp only [List.cons_append, chainB, chainS, ih, List.length_cons, List.append_assoc]; rw [show base + 1 + a.length = base + (a.length + 1) from by omega]
theorem chain_split (s base : Nat) (ls : List (List UInt8)) (q : Nat) (h : q < ls.length) : chainB s base ls = chainB s base (ls.take q) ++ (frameB (chainS s base (ls.take q)) (base + q) ls[q] ++ chainB (fsum (chainS s base (ls.take q)) (base + q) ls[q]) (base + q + 1) (ls.drop (q + 1))) := by
  have hsp : ls = ls.take q ++ ([ls[q]] ++ ls.drop (q + 1)) := by simp
  have hql : (ls.take q).length = q := List.length_take_of_le (by omega)
  have h2 := chainB_app s base (ls.take q) ([ls[q]] ++ ls.drop (q + 1))
  rw [← hsp, hql, List.singleton_append, chainB] at h2
  exact h2
theorem chainB_len (s base : Nat) (ds : List (List UInt8)) (h : ∀ d ∈ ds, d.length ≤ 4096) : (chainB s base ds).length ≤ 4112 * ds.length := by
  induction ds generalizing s base with
  | nil => simp [chainB]
  | cons x ds ih =>
    have h1 := h x List.mem_cons_self
    have h2 := ih (fsum s base x) (base + 1) (fun d hd => h d (List.mem_cons_of_mem _ hd))
    simp only [chainB, List.length_append, frameB_length, List.length_cons]
    omega

theorem wpList_slice_l {ops : Array Oper} {rest : List Oper} {o : Oper} {a : Act} {w : World} {Q : Exit → Act → World → Prop} (hgd : o.guard = none) (x lo : Operand)
    (ho : o.op = .slice 31 x (some lo) none none) {A : Option Addr} {n c : Nat} {kl : IntKind} (l : Nat)
    (hx : a.eval x = .slice A n c) (hlo : a.eval lo = .int kl (l : Int)) (h1 : l ≤ n) (_h2 : n ≤ c)
    (k : ∀ A2, Hid (A2 = if c = l then A else A.map (·.add l)) → wpList Try.prog ops Q rest (a.put o.dst (.slice A2 (n - l) (c - l))) w) : wpList Try.prog ops Q (o :: rest) a w := by
  obtain ⟨i, hi', _, hs, _⟩ := info_parts Try.infoB
  refine wpList_plain hgd fun K hK => ?_
  have hr : (Instr.sliceAt 31 (.slice A n c) (some (.int kl (l : Int))) none none).run Try.prog w = .ok (.slice (if c = l then A else A.map (·.add l)) (n - l) (c - l)) w := by
    have e1 : (l : Int) ≤ (n : Int) := by omega
    simp [go_sem, Instr.sliceAt, Instr.slice, Instr.sliceBounds, run_underlying Try.underlying31, sizeOf, typeInfo, hi', hs, e1]
    try (intro hh; omega)
  unfold Oper.wp execOp
  simp only [ho, Option.map_some, Option.map_none, hx, hlo, Sem.run_bind, hr, Result.andThen_ok, Sem.run_pure]
  exact hK _ _ (k _ rfl)
theorem rd_drop {A A2 : Option Addr} {n c l : Nat} {L : List UInt8} {w : World} (hr : Rd w A (bv L)) (hA : A2 = if c = l then A else A.map (·.add l)) (hl : L.length = n) (hc : n ≤ c) : Rd w A2 (bv (L.drop l)) := by
  rw [show bv (L.drop l) = (bv L).drop l from by simp [bv, List.map_drop]]
  by_cases h : c = l
  · rw [List.drop_eq_nil_of_le (by rw [bv_length]; omega)]; exact Rd.nil _ _
  · rw [hA, if_neg h]; exact hr.drop

theorem eq_quiet (l l' : List UInt8) (b : Bool) (hb : eqB l l' = b) (n n' : Nat) (hl : l.length = n) (hl' : l'.length = n') (hn : n ≤ 9223372036854775807) (A A' : Option Addr) (c c' : Nat) (w : World) (k : Nat) (hr : Rd w A (bv l)) (hr' : Rd w A' (bv l')) :
    Calls Try.prog 17 #[.slice A n c, .slice A' n' c'] (w.drewN k) fun e w'' => e = .returned (.bool b) ∧ ∃ m, w'' = w.drewN m := by
  subst hb
  have hb : Below w.heap.size w (w.drewN k) := drewN_below _ _ _
  exact Calls.quiet_of ((eq_any l l' n n' hl hl' hn A A' c c' _ (hr.keep hb) (hr'.keep hb)).mono fun _ _ h => h)
theorem size_quiet (n : Int) (w : World) (k : Nat) (h0 : -9223372036854775808 ≤ n) (h1 : n ≤ 9223372036854775807) :
    Calls Try.prog 12 #[.int .i64 n] (w.drewN k) fun e w'' => e = .returned (.int .i64 (fsize n)) ∧ ∃ m, w'' = w.drewN m :=
  Calls.quiet_of_same ((size_any n _ h0 h1).mono fun _ _ h => ⟨h.1, h.2.symm⟩)

set_option maxRecDepth 100000 in
set_option maxHeartbeats 4000000 in
theorem chain_main (nm base seed : Nat) (A : Option Addr) (n c : Nat) (vs : List Value) (ls : List (List UInt8)) (w : World) (hd : Datas w A n vs ls)
    (h1 : 1 ≤ nm) (g2 : nm < 9223372036854775808) (h2 : 1 ≤ base) (h3 : base ≤ 1152921504606846976) (h4 : n ≤ 100) (hs : seed < 4294967296) :
    Calls Try.prog 7 #[.agg #[.int .i64 nm, .int .i64 base, .int .u32 seed], .slice A n c] w (EqRP w true) := by
  have b1 : decide ((nm : Int) < 1) = false := by simp; omega
  have b2 : decide ((base : Int) < 1) = false := by simp; omega
  have b3 : decide (1152921504606846976 < (base : Int)) = false := by simp; omega
  have b4 : decide (100 < (n : Int)) = false := by simp; omega
  have hb0 : Below w.heap.size w (w.alloc (Obj.cells #[.int .i64 nm, .int .i64 base, .int .u32 seed] 50)) := (Below.refl _ _).alloc (Nat.le_refl _) _
  have p0 : (w.alloc (Obj.cells #[.int .i64 nm, .int .i64 base, .int .u32 seed] 50)).heap[w.heap.size]? = some (.cells #[.int .i64 nm, .int .i64 base, .int .u32 seed] 50 (0, 0)) := heap_alloc_new w _
  go_enter Try.func7, Try.ntmps7
  go_wp2_with fail
  generalize (w.alloc (Obj.cells #[.int .i64 nm, .int .i64 base, .int .u32 seed] 50)) = W0 at *
  refine (begun_any W0).mono ?_
  rintro e W1 ⟨rfl, hb1⟩
  have p1 := (hb1.block _ (Array.getElem?_eq_some_iff.1 p0).1).trans p0
  have hb01 := thn hb0 hb1
  have c0 := cell_of_row _ _ 0 _ _ _ p1
  have c1 := cell_of_row _ _ 1 _ _ _ p1
  have c2 := cell_of_row _ _ 2 _ _ _ p1
  clear p0 hb0 hb1
  go_wp2_with fail
  clear c0 c1 c2
  have hwh : whead nm base seed = (bareB nm base seed ++ le 4 (mask (csum (bareB nm base seed))), csum (bareB nm base seed), 0) := by rw [whead, if_neg (by omega)]; rfl
  have hrh := fun rest => rhead_whead nm base seed rest h1 g2 h2 (by omega) hs
  refine (whead_any nm base seed (by omega) (by omega) (by omega) (by omega) hs W1).mono ?_
  rw [hwh]
  rintro e W2 ⟨A2, n2, c2, rfl, ho2, hb2⟩
  have hn2 : n2 = 32 := by have := ho2.len; simp [bareB_length, le_length] at this; exact this.symm
  subst hn2
  have hS0 := csum_lt (bareB nm base seed)
  have hhl := ho2.len
  generalize csum (bareB nm base seed) = S0 at *
  generalize bareB nm base seed ++ le 4 (mask S0) = hb at *
  have Hrh := Lib.hid hrh
  have p2 := (hb2.block _ (Array.getElem?_eq_some_iff.1 p1).1).trans p1
  have hb02 := thn hb01 hb2
  have hw2 : w.heap.size < W1.heap.size := (Array.getElem?_eq_some_iff.1 p1).1
  have hz2 := hb2.size
  clear hwh hrh p1 hb2 hb01
  go_wp2_with fail
  go_loopw [5, 6, 8, 9, 10, 11] (fun b s i _ _ _ wr => ∃ (k m cc : Nat) (B : Option Addr), k ≤ n ∧ i = .int .i64 k ∧ b = .slice B m cc ∧ s = .int .u32 (chainS S0 base (ls.take k) : Nat) ∧
      Own W1.heap.size wr B m cc (hb ++ chainB S0 base (ls.take k)) ∧ W1.heap.size ≤ wr.heap.size ∧ (∀ d ∈ ls.take k, d.length ≤ 4096) ∧ Below w.heap.size w wr ∧
      wr.heap[w.heap.size]? = some (.cells #[.int .i64 nm, .int .i64 base, .int .u32 seed] 50 (0, 0))) (fun _ _ i _ _ _ _ => n - (intOf i).toNat)
  case atStart => exact ⟨0, 32, c2, A2, by omega, rfl, rfl, rfl, by simpa [chainB] using ho2, hz2, by simp, hb02, p2⟩
  case round =>
    obtain ⟨k, m, cc, B, hk, rfl, rfl, rfl, ho, hz, hall, hbW, pW⟩ := hrel
    have hSk := chainS_lt S0 base (ls.take k) hS0
    have hml : m ≤ 32 + 4112 * 100 := by
      have h1 := ho.len
      have h2 := chainB_len S0 base (ls.take k) hall
      rw [List.length_append] at h1
      have h3 := List.length_take_le k ls
      omega
    generalize hSe : chainS S0 base (ls.take k) = S at *
    have HSe := Lib.hid hSe
    clear hSe
    have Hall := Lib.hid hall
    clear hall
    have cb := cell_of_row _ _ 1 _ _ _ pW
    by_cases hlt : k < n
    · obtain ⟨ad, D, cd, rfl, hcell, hD1, hD2, hD3⟩ := (hd.keep hbW).at_ k (by have := hd.llen; omega)
      have hdl : (ls[k]'(by have := hd.llen; omega)).length ≤ 9223372036854775807 := by omega
      generalize hde : ls[k]'(by have := hd.llen; omega) = d at *
      have Hde := Lib.hid hde
      clear hde
      go_wp2_with fail
      have hbk : IntKind.i64.wrap ((base : Int) + (k : Int)) = (base : Int) + (k : Int) := by rw [IntKind.wrap_i64]; omega
      have hix0 : (0 : Int) ≤ (k : Int) := by omega
      have hix1 : (k : Int) < (n : Int) := by omega
      have l1 := World.block_lt_of_cell? wr _ hcell
      have l2 := World.block_lt_of_cell? wr _ cb
      go_region_held3 (fun w' => w'.cell? (ad.add k) = some (.slice D d.length cd) ∧ w'.cell? ⟨w.heap.size, 1, none⟩ = some (.int .i64 base)) (first | exact ⟨hcell, cb⟩ | exact ⟨(hb5.cell l1).trans hcell, (hb5.cell l2).trans cb⟩)
        (first | (go_at_call 15; refine (write_any S hSk ((base : Int) + (k : Int)) (by omega) (by omega) d (by omega) D cd wr.drew hD3).mono ?_; rintro e w5 ⟨A5, n5, c5, rfl, ho5, hb5⟩))
      have hbW5 : Below w.heap.size w w5 := (hbW.trans (⟨rfl, rfl, rfl, Nat.le_refl _, fun _ _ => rfl⟩ : Below _ wr wr.drew)).trans (hb5.mono hbW.size)
      have hcell5 : w5.cell? (ad.add k) = some (.slice D d.length cd) := (hb5.cell l1).trans hcell
      have hz5 : W1.heap.size ≤ w5.heap.size := Nat.le_trans hz hb5.size
      have pW5 := (hb5.block _ (Array.getElem?_eq_some_iff.1 pW).1).trans pW
      by_cases h4 : d.length ≤ 4096
      · have hfw : fwrite S ((base : Int) + (k : Int)) d = (frameB S (base + k) d, fsum S (base + k) d, 0) := by
          rw [fwrite, if_neg (by omega), if_neg (by omega)]; simp [show ((base : Int) + (k : Int)).toNat = base + k by omega]
        rw [hfw] at ho5 ⊢
        have g4 : decide ((d.length : Int) ≤ 4096) = true := by simp; omega
        have hoA := (ho.keep (⟨rfl, rfl, rfl, Nat.le_refl _, fun _ _ => rfl⟩ : Below wr.heap.size wr wr.drew)).keep hb5
        have hn5 : n5 = 16 + d.length := by have := ho5.len; rw [frameB_length] at this; omega
        subst hn5
        clear hfw hcell hD3 cb pW
        go_wp2_with (first
          | (at_builtin; refine wpList_append_s rfl (.tmp 79) (.tmp 80) rfl rfl rfl hoA ho5.rd ho5.len (by omega) hz5 ?_; intro A6 c6 w6 ho6 hb6))
        have hpW6 := (hb6.block _ hw2).trans pW5
        have hls : k < ls.length := by have := hd.llen; omega
        have htk : ls.take (k + 1) = ls.take k ++ [d] := by rw [List.take_succ_eq_append_getElem hls, Hde.out]
        have hkl : (ls.take k).length = k := List.length_take_of_le (by omega)
        refine ⟨⟨k + 1, m + (16 + d.length), c6, A6, by omega, by go_num, rfl, ?_, ?_, Nat.le_trans hz5 hb6.size, ?_, hbW5.trans (hb6.mono (Nat.le_of_lt hw2)), hpW6⟩, by simp [intOf]; omega⟩
        · rw [htk, chainS_snoc, HSe.out, hkl]
        · rw [htk, chainB_snoc, HSe.out, hkl, ← List.append_assoc]; exact ho6
        · rw [htk]; intro x hx; rcases List.mem_append.1 hx with hx | hx
          · exact Hall.out x hx
          · obtain rfl := List.mem_singleton.1 hx; exact h4
      · have hfw : fwrite S ((base : Int) + (k : Int)) d = ([], 0, 3) := by
          rw [fwrite, if_neg (by omega), if_pos (by omega)]
        rw [hfw] at ho5 ⊢
        have g4 : decide ((d.length : Int) ≤ 4096) = false := by simp; omega
        clear hfw hcell hD3 cb pW
        go_wp2_with fail
        go_ret
        exact ⟨rfl, hbW5⟩
    · obtain rfl : k = n := by omega
      have hlk : ls.take k = ls := List.take_of_length_le (by have := hd.llen; omega)
      rw [hlk] at ho HSe Hall
      have hlm := ho.len
      rw [List.length_append, hhl] at hlm
      go_wp2_with fail
      refine (rhead_any _ m ho.len (by omega) B cc ho.cap_le wr ho.rd).mono ?_
      rw [Hrh.out]
      rintro e w5 ⟨rfl, hb5⟩
      have hb6 : Below w5.heap.size w5 (w5.alloc (Obj.cells #[.int .i64 nm, .int .i64 base, .int .u32 seed] 50)) := (Below.refl _ _).alloc (Nat.le_refl _) _
      have hbW6 := thn hbW (thn hb5 hb6)
      have ho6 := ho.keep (thn hb5 hb6)
      have p6 := ((thn hb5 hb6).block _ (Array.getElem?_eq_some_iff.1 pW).1).trans pW
      have d6 : (w5.alloc (Obj.cells #[.int .i64 nm, .int .i64 base, .int .u32 seed] 50)).heap[w5.heap.size]? = some (.cells #[.int .i64 nm, .int .i64 base, .int .u32 seed] 50 (0, 0)) := heap_alloc_new w5 _
      have s0 := cell_of_row _ _ 0 _ _ _ p6
      have s1 := cell_of_row _ _ 1 _ _ _ p6
      have s2 := cell_of_row _ _ 2 _ _ _ p6
      have d0 := cell_of_row _ _ 0 _ _ _ d6
      have d1 := cell_of_row _ _ 1 _ _ _ d6
      have d2 := cell_of_row _ _ 2 _ _ _ d6
      go_wp2_with (fail)
      have hk6 := hd.keep hbW6
      have hsz6 : (w5.alloc (Obj.cells #[.int .i64 nm, .int .i64 base, .int .u32 seed] 50)).heap.size = w5.heap.size + 1 := by simp
      clear s0 s1 s2 d0 d1 d2 d6 hb6 ho hb5 pW hbW hz
      generalize (w5.alloc (Obj.cells #[.int .i64 nm, .int .i64 base, .int .u32 seed] 50)) = W6 at *
      generalize hbe : hb ++ chainB S0 base ls = fb at *
      have Hbe := Lib.hid hbe
      have hfl : fb.length = m := ho6.len
      have hcm := ho6.cap_le
      clear hbe
      go_loopw [13, 14, 15, 16, 17, 18, 19] (fun r at_ i _ _ _ _ wr => ∃ (q : Nat), q ≤ k ∧ i = .int .i64 q ∧ r = .int .u32 (chainS S0 base (ls.take q) : Nat) ∧
        at_ = .int .i64 ((32 + (chainB S0 base (ls.take q)).length : Nat) : Int) ∧ Below W6.heap.size W6 wr) (fun _ _ i _ _ _ _ _ => k - (intOf i).toNat)
      case atStart => exact ⟨0, by omega, rfl, rfl, rfl, Below.refl _ _⟩
      case round =>
        obtain ⟨q, hq, rfl, rfl, rfl, hbr⟩ := hrel
        by_cases hlt : q < k
        · obtain ⟨ad, D, cd, rfl, hcell, hD1, hD2, hD3⟩ := (hk6.keep hbr).at_ q (by have := hd.llen; omega)
          have hqs : q < ls.length := by have := hd.llen; omega
          have hSq := chainS_lt S0 base (ls.take q) hS0
          have hql : (ls.take q).length = q := List.length_take_of_le (by omega)
          have htq : ls.take (q + 1) = ls.take q ++ [ls[q]] := by rw [List.take_succ_eq_append_getElem hqs]
          have hd4 := Hall.out ls[q] (List.getElem_mem _)
          have hCs : chainS S0 base (ls.take (q + 1)) = fsum (chainS S0 base (ls.take q)) (base + q) ls[q] := by rw [htq, chainS_snoc, hql]
          have hCb : (chainB S0 base (ls.take (q + 1))).length = (chainB S0 base (ls.take q)).length + (16 + ls[q].length) := by rw [htq, chainB_snoc, hql, List.length_append, frameB_length]
          have hfd : fread (chainS S0 base (ls.take q)) (fb.drop (32 + (chainB S0 base (ls.take q)).length)) = (base + q, ls[q], 16 + ls[q].length, fsum (chainS S0 base (ls.take q)) (base + q) ls[q], 0) := by
            have e : fb.drop (32 + (chainB S0 base (ls.take q)).length) = frameB (chainS S0 base (ls.take q)) (base + q) ls[q] ++ chainB (fsum (chainS S0 base (ls.take q)) (base + q) ls[q]) (base + q + 1) (ls.drop (q + 1)) := by
              rw [← Hbe.out, chain_split S0 base ls q hqs, ← List.append_assoc]
              exact List.drop_left' (by rw [List.length_append, hhl])
            rw [e]
            exact fread_fwrite _ _ _ _ (by omega) (by omega) hd4
          have hKl : 32 + (chainB S0 base (ls.take q)).length + (16 + ls[q].length) ≤ m := by
            have h9 := congrArg List.length (chain_split S0 base ls q hqs)
            simp only [List.length_append, frameB_length] at h9
            omega
          generalize hde : ls[q] = d at *
          generalize hSe1 : chainS S0 base (ls.take q) = Sq at *
          generalize hSe2 : chainS S0 base (ls.take (q + 1)) = Sq1 at *
          generalize hKe1 : (chainB S0 base (ls.take q)).length = K at *
          generalize hKe2 : (chainB S0 base (ls.take (q + 1))).length = K1 at *
          have HSe2 := Lib.hid hSe2
          have HKe2 := Lib.hid hKe2
          have Hfd := Lib.hid hfd
          have ho7 := ho6.keep hbr
          subst hCs
          subst hCb
          clear hde hSe1 hKe1 hfd htq hql hSe2 hKe2
          have p7 := (hbr.block _ (Array.getElem?_eq_some_iff.1 p6).1).trans p6
          go_wp2_with (refine wpList_slice_l rfl (.tmp 104) (.tmp 105) rfl (32 + K) rfl rfl (by omega) hcm ?_; intro A9 hA9)
          have hr9 := rd_drop ho7.rd hA9.out ho7.len hcm
          refine (fread_any Sq hSq (fb.drop (32 + K)) (m - (32 + K)) (by rw [List.length_drop]; omega) (by omega) A9 _ (by omega) wr hr9).mono ?_
          rw [Hfd.out]
          rintro e w8 ⟨A8, n8, c8, rfl, ho8, hb8⟩
          have hn8 : n8 = d.length := ho8.len.symm
          subst hn8
          have hb89 : Below w8.heap.size w8 (w8.alloc (Obj.cells #[.int .i64 ((base : Int) + (q : Int)), .slice A8 d.length c8] 34)) := (Below.refl _ _).alloc (Nat.le_refl _) _
          have hbr9 := thn hbr (thn hb8 hb89)
          have d6 : (w8.alloc (Obj.cells #[.int .i64 ((base : Int) + (q : Int)), .slice A8 d.length c8] 34)).heap[w8.heap.size]? = some (.cells #[.int .i64 ((base : Int) + (q : Int)), .slice A8 d.length c8] 34 (0, 0)) := heap_alloc_new w8 _
          have d0 := cell_of_row _ _ 0 _ _ _ d6
          have d1 := cell_of_row _ _ 1 _ _ _ d6
          have ho9 := ho8.keep hb89
          have p9 := ((thn hb8 hb89).block _ (Array.getElem?_eq_some_iff.1 p7).1).trans p7
          have s1 := cell_of_row _ _ 1 _ _ _ p9
          have lc := World.block_lt_of_cell? wr _ hcell
          have hcell9 := ((thn hb8 hb89).cell lc).trans hcell
          have hD9 := hD3.keep (thn hb8 hb89)
          go_wp2_with fail
          generalize (w8.alloc (Obj.cells #[.int .i64 ((base : Int) + (q : Int)), .slice A8 d.length c8] 34)) = W9 at *
          have hix0 : (0 : Int) ≤ (q : Int) := by omega
          have hix1 : (q : Int) < (k : Int) := by omega
          have hbq : IntKind.i64.wrap ((base : Int) + (q : Int)) = (base : Int) + (q : Int) := by rw [IntKind.wrap_i64]; omega
          have heq : eqB d d = true := by simp [eqB]
          have hne2 : ((16 : Int) + (d.length : Int) != fsize (d.length : Int)) = false := by rw [fsize, if_pos (by omega)]; simp
          go_quiet (first
            | (go_at_call 17; exact eq_quiet d d true heq _ _ rfl rfl (by omega) A8 D c8 cd W9 _ ho9.rd hD9)
            | (go_at_call 12; exact size_quiet d.length W9 _ (by omega) (by omega)))
          go_wp2_with fail
          refine ⟨⟨q + 1, by omega, by go_num, ?_, ?_, hbr9.trans (drewN_below _ _ _)⟩, by simp [intOf]; omega⟩
          · rw [HSe2.out]
          · rw [HKe2.out]; go_num
        · obtain rfl : q = k := by omega
          rw [hlk]
          have hfin : (((32 + (chainB S0 base ls).length : Nat) : Int) == (m : Int)) = true := by simp; omega
          have hfin2 : ((32 : Int) + ((chainB S0 base ls).length : Int) == (m : Int)) = true := by simp; omega
          have HS3 := HSe.out
          rw [HS3]
          go_wp2_with fail
          go_ret
          exact ⟨rfl, hbW6.trans (hbr.mono (Nat.le_trans hbW6.size (Nat.le_refl _)))⟩

set_option maxRecDepth 100000 in
set_option maxHeartbeats 4000000 in
theorem chain_any (nm base : Int) (seed : Nat) (A : Option Addr) (n c : Nat) (vs : List Value) (ls : List (List UInt8)) (w : World) (hd : Datas w A n vs ls)
    (g1 : -9223372036854775808 ≤ nm) (g2 : nm ≤ 9223372036854775807) (g3 : -9223372036854775808 ≤ base) (g4 : base ≤ 9223372036854775807) (hn : n ≤ 9223372036854775807) (hs : seed < 4294967296) :
    Calls Try.prog 7 #[.agg #[.int .i64 nm, .int .i64 base, .int .u32 seed], .slice A n c] w (EqRP w true) := by
  by_cases hall : 1 ≤ nm ∧ 1 ≤ base ∧ base ≤ 1152921504606846976 ∧ n ≤ 100
  · obtain ⟨h1, h2, h3, h4⟩ := hall
    obtain ⟨N, rfl⟩ := Int.eq_ofNat_of_zero_le (a := nm) (by omega)
    obtain ⟨B, rfl⟩ := Int.eq_ofNat_of_zero_le (a := base) (by omega)
    exact chain_main N B seed A n c vs ls w hd (by omega) (by omega) (by omega) (by omega) h4 hs
  · have hb0 : Below w.heap.size w (w.alloc (Obj.cells #[.int .i64 nm, .int .i64 base, .int .u32 seed] 50)) := (Below.refl _ _).alloc (Nat.le_refl _) _
    have p0 : (w.alloc (Obj.cells #[.int .i64 nm, .int .i64 base, .int .u32 seed] 50)).heap[w.heap.size]? = some (.cells #[.int .i64 nm, .int .i64 base, .int .u32 seed] 50 (0, 0)) := heap_alloc_new w _
    rcases (show nm < 1 ∨ (¬ nm < 1 ∧ base < 1) ∨ (¬ nm < 1 ∧ ¬ base < 1 ∧ 1152921504606846976 < base) ∨ (¬ nm < 1 ∧ ¬ base < 1 ∧ ¬ 1152921504606846976 < base ∧ 100 < (n : Int)) by omega) with h1 | ⟨h1, h2⟩ | ⟨h1, h2, h3⟩ | ⟨h1, h2, h3, h4⟩
    all_goals
      go_enter Try.func7, Try.ntmps7
      go_wp2_with fail
      generalize (w.alloc (Obj.cells #[.int .i64 nm, .int .i64 base, .int .u32 seed] 50)) = W0 at *
      refine (begun_any W0).mono ?_
      rintro e W1 ⟨rfl, hb1⟩
      have p1 := (hb1.block _ (Array.getElem?_eq_some_iff.1 p0).1).trans p0
      have hb01 := thn hb0 hb1
      have c0 := cell_of_row _ _ 0 _ _ _ p1
      have c1 := cell_of_row _ _ 1 _ _ _ p1
      clear p0 hb0 hb1 hall
      go_wp2_with fail
      go_ret
      exact ⟨rfl, hb01⟩
end Go.Proofs.Ytdfabjkffjacoaa
