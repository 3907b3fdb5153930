/- Walks: frame.Read and the reference's. -/
import Derived.Test.YtdfabjkffjacoaaDefer
namespace Go.Proofs.Ytdfabjkffjacoaa
open Go.RowKit

def numB (N most : Nat) : Bool := decide (1 ≤ N ∧ N ≤ most)
def NumP (w : World) (g : Nat) (A : Option Addr) (n c at_ : Nat) (N most : Nat) (e : Ending) (w' : World) : Prop :=
  ∃ z : Int, e = .returned (.tuple #[.int .i64 z, .bool (numB N most)]) ∧ (numB N most = true → z = N) ∧ w.grownBy w' (some g) ∧ w'.heap[g]? = some (rdr A n c at_)

theorem grown_below {w w1 w2 : World} {row : Option Nat} (h1 : Below w.heap.size w w1) (h2 : w1.grownBy w2 row) : w.grownBy w2 row :=
  ⟨h2.os.trans h1.os, h2.tape.trans h1.tape, h2.output.trans h1.output, Nat.le_trans h1.size h2.size, fun k hk hne => (h2.block k (Nat.lt_of_lt_of_le hk h1.size) hne).trans (h1.block k hk)⟩

set_option maxHeartbeats 400000 in
theorem number_any (g : Nat) (A : Option Addr) (l : List UInt8) (n c at_ most : Nat) (hm : most < 9223372036854775808) (hl : l.length = n) (h1 : at_ + 8 ≤ n) (h2 : n ≤ c) (h3 : c ≤ 9223372036854775807) (w : World) (hr : Rd w A (bv l)) (hg : w.heap[g]? = some (rdr A n c at_)) :
    Calls Try.prog 45 #[.agg #[.pointer (some ⟨g, 0, none⟩)], .int .i64 most] w (NumP w g A n c (at_ + 8) (num ((l.drop at_).take 8)) most) := by
  have hlt : g < w.heap.size := (Array.getElem?_eq_some_iff.1 hg).1
  have hbnd : num ((l.drop at_).take 8) < 18446744073709551616 := by
    have := num_lt ((l.drop at_).take 8)
    rwa [List.length_take_of_le (by rw [List.length_drop]; omega)] at this
  generalize hN : num ((l.drop at_).take 8) = N at *
  have HN := Lib.hid hN; clear hN
  have hb0 : Below w.heap.size w (w.alloc (Obj.cells #[Value.pointer (some ⟨g, 0, none⟩)] 84)) := (Below.refl _ _).alloc (Nat.le_refl _) _
  have hg0 := (hb0.block g hlt).trans hg
  have hr0 := hr.keep hb0
  by_cases hz : 1 ≤ N
  · by_cases hle : N ≤ most
    · have Hb : Hid (numB N most = true) := by simp [Hid, numB, hz, hle]
      go_enter Try.func45, Try.ntmps45
      go_wp2_with fail
      refine (read64_any g A l n c at_ hl h1 h2 h3 _ hr0 hg0).mono ?_
      rintro e w1 ⟨rfl, hgr, hg1⟩
      rw [HN.out]
      go_wp2
      go_ret2
      exact ⟨N, by first | (rw [Hb.out]; done) | (rw [Hb.out]; rfl), fun _ => rfl, grown_below hb0 hgr, hg1⟩
    · have Hb : Hid (numB N most = false) := by simp [Hid, numB, hle]
      go_enter Try.func45, Try.ntmps45
      go_wp2_with fail
      refine (read64_any g A l n c at_ hl h1 h2 h3 _ hr0 hg0).mono ?_
      rintro e w1 ⟨rfl, hgr, hg1⟩
      rw [HN.out]
      go_wp2
      go_ret2
      exact ⟨_, by first | (rw [Hb.out]; done) | (rw [Hb.out]; rfl), fun h => (by first | rfl | (rw [Hb.out] at h; cases h)), grown_below hb0 hgr, hg1⟩
  · have Hb : Hid (numB N most = false) := by simp [Hid, numB, hz]
    go_enter Try.func45, Try.ntmps45
    go_wp2_with fail
    refine (read64_any g A l n c at_ hl h1 h2 h3 _ hr0 hg0).mono ?_
    rintro e w1 ⟨rfl, hgr, hg1⟩
    rw [HN.out]
    go_wp2
    go_ret2
    exact ⟨_, by first | (rw [Hb.out]; done) | (rw [Hb.out]; rfl), fun h => (by first | rfl | (rw [Hb.out] at h; cases h)), grown_below hb0 hgr, hg1⟩
theorem number_at (m : Int) (most : Nat) (hmm : m = most) (g : Nat) (A : Option Addr) (l : List UInt8) (n c at_ : Nat) (hm : most < 9223372036854775808) (hl : l.length = n) (h1 : at_ + 8 ≤ n) (h2 : n ≤ c) (h3 : c ≤ 9223372036854775807) (w : World) (hr : Rd w A (bv l)) (hg : w.heap[g]? = some (rdr A n c at_)) :
    Calls Try.prog 45 #[.agg #[.pointer (some ⟨g, 0, none⟩)], .int .i64 m] w (NumP w g A n c (at_ + 8) (num ((l.drop at_).take 8)) most) := by
  subst hmm
  exact number_any g A l n c at_ most hm hl h1 h2 h3 w hr hg

/-- a reader of its own copy -/
structure RdrS (w : World) (B g : Nat) (l : List UInt8) (A : Option Addr) (n c at_ : Nat) : Prop where
  blk : w.heap[g]? = some (rdr A n c at_)
  own : Own B w A n c l
  low : B ≤ g
  ne : ∀ ad, A = some ad → ad.block ≠ g
  cap : c ≤ 9223372036854775807
section
variable {w w' : World} {B g : Nat} {l : List UInt8} {A : Option Addr} {n c at_ : Nat}
theorem RdrS.lt (h : RdrS w B g l A n c at_) : g < w.heap.size := (Array.getElem?_eq_some_iff.1 h.blk).1
theorem RdrS.step {at' : Nat} (h : RdrS w B g l A n c at_) (hg : w.grownBy w' (some g)) (hb : w'.heap[g]? = some (rdr A n c at')) : RdrS w' B g l A n c at' :=
  ⟨hb, h.own.grown hg fun ad hA e => h.ne ad hA (by injection e), h.low, h.ne, h.cap⟩
theorem RdrS.keep (h : RdrS w B g l A n c at_) (hb : Below w.heap.size w w') : RdrS w' B g l A n c at_ :=
  ⟨(hb.block g h.lt).trans h.blk, h.own.keep hb, h.low, h.ne, h.cap⟩
theorem RdrS.below (h : RdrS w B g l A n c at_) {w0 : World} (hB : B ≤ w.heap.size) (hg : w.grownBy w' (some g)) (hb : Below B w0 w) : Below B w0 w' :=
  hb.grown hg hB fun k hk => by cases hk; exact h.low
end
theorem Own.cap_max {B n cp : Nat} {w : World} {A : Option Addr} {l : List UInt8} (h : Own B w A n cp l) : cp ≤ 9223372036854775807 := by
  rcases h.2 with ⟨hv, _⟩ | ⟨g, cap, cur, hv, _, _, _, hm, _⟩
  · injection hv with _ _ hc'; omega
  · injection hv with _ _ hc'; simp only [maxLen] at hm; omega

def NewP (w : World) (l : List UInt8) (n : Nat) (e : Ending) (w' : World) : Prop :=
  ∃ g A c, e = .returned (.pointer (some ⟨g, 0, none⟩)) ∧ RdrS w' w.heap.size g l A n c 0 ∧ Below w.heap.size w w'

set_option maxHeartbeats 400000 in
theorem new_any (l : List UInt8) (n : Nat) (hl : l.length = n) (hn : n ≤ 140737488355328) (A : Option Addr) (cp : Nat) (w : World) (hr : Rd w A (bv l)) :
    Calls Try.prog 43 #[.slice A n cp] w (NewP w l n) := by
  go_enter Try.func43, Try.ntmps43
  go_wp2_with (at_builtin; refine wpList_append_s rfl (.const (.slice none 0 0)) (.tmp 3) rfl rfl rfl (Own.nil w.heap.size w) hr hl (by omega) (Nat.le_refl _) ?_; intro A1 c1 w1 ho1 hb1)
  go_ret
  rw [Nat.zero_add, List.nil_append] at ho1
  have hb2 : Below w1.heap.size w1 (w1.alloc (Obj.cells #[Value.slice A1 n c1, Value.int IntKind.i64 0, Value.int IntKind.i64 0] 99)) := (Below.refl _ _).alloc (Nat.le_refl _) _
  exact ⟨_, A1, c1, rfl, ⟨heap_alloc_new w1 _, ho1.keep hb2, hb1.size, fun ad hA e => by have := (ho1.lt ad hA).2; omega, ho1.cap_max⟩, thn hb1 hb2⟩

/-- what reading a frame comes to: number, data, size, sum, error -/
def fread (seed : Nat) (l : List UInt8) : Nat × List UInt8 × Nat × Nat × Nat :=
  if l.length < 16 then (0, [], 0, 0, 2)
  else if 4096 < num (l.take 4) then (0, [], 0, 0, 3)
  else if numB (num ((l.drop 4).take 8)) 9223372036854775806 = false then (0, [], 0, 0, 4)
  else if l.length < 16 + num (l.take 4) then (0, [], 0, 0, 2)
  else if num ((l.drop 12).take 4) ≠ mask (fsum seed (num ((l.drop 4).take 8)) ((l.drop 16).take (num (l.take 4)))) then (0, [], 0, 0, 5)
  else (num ((l.drop 4).take 8), (l.drop 16).take (num (l.take 4)), 16 + num (l.take 4), fsum seed (num ((l.drop 4).take 8)) ((l.drop 16).take (num (l.take 4))), 0)

def FReadP (w : World) (r : Nat × List UInt8 × Nat × Nat × Nat) (e : Ending) (w' : World) : Prop :=
  ∃ A n c, e = .returned (.tuple #[.agg #[.int .i64 (r.1 : Int), .slice A n c], .int .i64 (r.2.2.1 : Int), .int .u32 (r.2.2.2.1 : Int), .int .i64 (r.2.2.2.2 : Int)]) ∧ Own w.heap.size w' A n c r.2.1 ∧ Below w.heap.size w w'

section
variable {P : Program}
theorem results_cell_t3 {fn : Func} {p : Tmp} {ty : TypeId} {x y z : Tmp} (h : fn.results = #[.cell p ty, .tmp x, .tmp y, .tmp z]) (tmps : Array Value) (w : World) (g : Nat) (t : TypeId) (cs : Array Value) (fr : Nat × Nat) (d : TypeDesc)
    (hp : tmps.getD p undef = .pointer (some ⟨g, 0, none⟩)) (hg : w.heap[g]? = some (.cells cs t fr))
    (hu : P.underlying ty = some d) (hd : (match d with | .struct _ | .array _ _ => true | _ => false) = true) (hi : (P.info? ty).map (·.size) = some cs.size) :
    (results fn tmps).run P w = .ok (.tuple #[.agg cs, tmps.getD x undef, tmps.getD y undef, tmps.getD z undef]) w := by
  have hp' : tmps[p]?.getD undef = .pointer (some ⟨g, 0, none⟩) := by simpa using hp
  simp [results, h, hp', asAddr, run_loadVar_row w g t ty cs fr d hg hu hd hi]
theorem results_cell_t2 {fn : Func} {p : Tmp} {ty : TypeId} {x y : Tmp} (h : fn.results = #[.cell p ty, .tmp x, .tmp y]) (tmps : Array Value) (w : World) (g : Nat) (t : TypeId) (cs : Array Value) (fr : Nat × Nat) (d : TypeDesc)
    (hp : tmps.getD p undef = .pointer (some ⟨g, 0, none⟩)) (hg : w.heap[g]? = some (.cells cs t fr))
    (hu : P.underlying ty = some d) (hd : (match d with | .struct _ | .array _ _ => true | _ => false) = true) (hi : (P.info? ty).map (·.size) = some cs.size) :
    (results fn tmps).run P w = .ok (.tuple #[.agg cs, tmps.getD x undef, tmps.getD y undef]) w := by
  have hp' : tmps[p]?.getD undef = .pointer (some ⟨g, 0, none⟩) := by simpa using hp
  simp [results, h, hp', asAddr, run_loadVar_row w g t ty cs fr d hg hu hd hi]
end

def zrec : Obj := .cells #[.int .i64 0, .slice none 0 0] 34 (0, 0)
theorem fread_none (w w' : World) (k : Nat) (hb : Below w.heap.size w w') : FReadP w (0, [], 0, 0, k) (.returned (.tuple #[.agg #[.int .i64 0, .slice none 0 0], .int .i64 0, .int .u32 0, .int .i64 (k : Int)])) w' :=
  ⟨none, 0, 0, rfl, Own.nil _ _, hb⟩

/-- the memory of a call of Read -/
structure RS (w W : World) (rb B g : Nat) (l : List UInt8) (A : Option Addr) (c at_ : Nat) : Prop where
  below : Below w.heap.size w W
  two : w.heap.size + 2 ≤ B
  r0 : W.heap[w.heap.size]? = some zrec
  r1 : W.heap[w.heap.size + 1]? = some zrec
  rs : RdrS W B g l A 16 c at_
  rv : W.heap[rb]? = some (.cells #[.pointer (some ⟨g, 0, none⟩)] 84 (0, 0))
  ne : rb ≠ g
section
variable {w W W' : World} {rb B g : Nat} {l : List UInt8} {A : Option Addr} {c at_ : Nat}
theorem RS.step {at' : Nat} (h : RS w W rb B g l A c at_) (hg : W.grownBy W' (some g)) (hb : W'.heap[g]? = some (rdr A 16 c at')) : RS w W' rb B g l A c at' := by
  have hs := h.below.size
  have h2 := h.two
  have hl := h.rs.low
  have l0 := (Array.getElem?_eq_some_iff.1 h.r0).1
  have l1 := (Array.getElem?_eq_some_iff.1 h.r1).1
  have lv := (Array.getElem?_eq_some_iff.1 h.rv).1
  have hne := h.ne
  refine ⟨h.below.grown hg hs fun k hk => by cases hk; omega, h2, ?_, ?_, h.rs.step hg hb, ?_, h.ne⟩
  · rw [hg.block _ l0 (fun e => by injection e; omega)]; exact h.r0
  · rw [hg.block _ l1 (fun e => by injection e; omega)]; exact h.r1
  · rw [hg.block _ lv (fun e => by injection e; omega)]; exact h.rv
theorem RS.keep (h : RS w W rb B g l A c at_) (hb : Below W.heap.size W W') : RS w W' rb B g l A c at_ :=
  ⟨thn h.below hb, h.two, (hb.block _ (Array.getElem?_eq_some_iff.1 h.r0).1).trans h.r0, (hb.block _ (Array.getElem?_eq_some_iff.1 h.r1).1).trans h.r1, h.rs.keep hb, (hb.block _ (Array.getElem?_eq_some_iff.1 h.rv).1).trans h.rv, h.ne⟩
theorem RS.cell (h : RS w W rb B g l A c at_) : W.cell? ⟨rb, 0, none⟩ = some (.pointer (some ⟨g, 0, none⟩)) := cell_of_row _ _ 0 _ _ _ h.rv
end

theorem read_ret {R : Ending → World → Prop} {a : Act} {w : World} {g : Nat} {c0 c1 : Value} {t : TypeId} {fr : Nat × Nat} (hd : a.defers = []) (hp : a.tmps.getD 4 undef = .pointer (some ⟨g, 0, none⟩))
    (hg : w.heap[g]? = some (.cells #[c0, c1] t fr)) (hR : R (.returned (.tuple #[.agg #[c0, c1], a.tmps.getD 5 undef, a.tmps.getD 6 undef, a.tmps.getD 7 undef])) w) : bodyPost Try.prog Try.f21 R .ret a w :=
  bodyPost_ret (results_cell_t3 (x := 5) (y := 6) (z := 7) rfl _ _ _ _ _ _ _ hp hg Try.underlying34 rfl (by kernel_rfl)) hd hR

theorem cut16 (l : List UInt8) (i k : Nat) (h : i + k ≤ 16) : ((l.take 16).drop i).take k = (l.drop i).take k := by
  rw [List.drop_take, List.take_take, Nat.min_eq_left (by omega)]
theorem rd_take {w : World} {A A2 : Option Addr} {l : List UInt8} {m c k n : Nat} (hr : Rd w A (bv l)) (hA : A2 = if c = k then A else A.map (·.add k)) (hl : l.length = m) (hc : m ≤ c) :
    Rd w A2 (bv ((l.drop k).take (n - k))) := by
  rw [hA]
  by_cases hk : k ≤ m
  · have h := rd_cut hr hl hc hk
    rw [show bv ((l.drop k).take (n - k)) = (bv (l.drop k)).take (n - k) from by simp [bv, List.map_take]]
    exact h.take
  · rw [List.drop_eq_nil_of_le (by omega)]
    simp only [List.take_nil]
    exact Rd.nil _ _
theorem read_fail {w W W' : World} {rb B g : Nat} {l : List UInt8} {A : Option Addr} {c at_ k : Nat} {a : Act} (h : RS w W rb B g l A c at_)
    (hW : W' = W.setRow w.heap.size #[.int .i64 0, .slice none 0 0]) (hd : a.defers = []) (hp : a.tmps.getD 4 undef = .pointer (some ⟨w.heap.size, 0, none⟩))
    (h5 : a.tmps.getD 5 undef = .int .i64 0) (h6 : a.tmps.getD 6 undef = .int .u32 0) (h7 : a.tmps.getD 7 undef = .int .i64 (k : Int)) :
    bodyPost Try.prog Try.f21 (FReadP w (0, [], 0, 0, k)) .ret a W' := by
  subst hW
  refine read_ret hd hp (setRow_heap W _ _ _ _ _ h.r0) ?_
  rw [h5, h6, h7]
  exact fread_none w _ k (h.below.trans ⟨rfl, rfl, rfl, by simp, fun j hj => setRow_other _ _ j _ (by omega)⟩)

set_option maxRecDepth 100000 in
set_option maxHeartbeats 1000000 in
theorem fread_any (seed : Nat) (hsd : seed < 4294967296) (l : List UInt8) (n : Nat) (hl : l.length = n) (hn : n ≤ 9223372036854775807) (A : Option Addr) (cp : Nat) (hc : n ≤ cp) (w : World) (hr : Rd w A (bv l)) :
    Calls Try.prog 21 #[.int .u32 seed, .slice A n cp] w (FReadP w (fread seed l)) := by
  have hb0 : Below w.heap.size w ((w.alloc (Obj.cells #[.int .i64 0, .slice none 0 0] 34)).alloc (Obj.cells #[.int .i64 0, .slice none 0 0] 34)) := ((Below.refl _ _).alloc (Nat.le_refl _) _).alloc (by simp) _
  have p0 : ((w.alloc (Obj.cells #[.int .i64 0, .slice none 0 0] 34)).alloc (Obj.cells #[.int .i64 0, .slice none 0 0] 34)).heap[w.heap.size]? = some zrec := heap_alloc2_old w _ _
  have p1 : ((w.alloc (Obj.cells #[.int .i64 0, .slice none 0 0] 34)).alloc (Obj.cells #[.int .i64 0, .slice none 0 0] 34)).heap[w.heap.size + 1]? = some zrec := heap_alloc2_new w _ _
  by_cases h16 : n < 16
  · have e : fread seed l = (0, [], 0, 0, 2) := by rw [fread, if_pos (by omega)]
    rw [e]
    have hd : decide ((n : Int) < 16) = true := by simp; omega
    go_enter Try.func21, Try.ntmps21
    go_wp2
    exact read_ret rfl rfl p0 (fread_none w _ 2 hb0)
  · have hd : decide ((n : Int) < 16) = false := by simp; omega
    go_enter Try.func21, Try.ntmps21
    go_wp2_with fail
    generalize ((w.alloc (Obj.cells #[.int .i64 0, .slice none 0 0] 34)).alloc (Obj.cells #[.int .i64 0, .slice none 0 0] 34)) = W0 at *
    have hz0 : w.heap.size + 2 ≤ W0.heap.size := (Array.getElem?_eq_some_iff.1 p1).1
    have hr0 := hr.keep hb0
    have ht16 : Rd W0 A (bv (l.take 16)) := by rw [show bv (l.take 16) = (bv l).take 16 from by simp [bv, List.map_take]]; exact hr0.take
    refine (new_any (l.take 16) 16 (List.length_take_of_le (by omega)) (by omega) A cp W0 ht16).mono ?_
    rintro e w1 ⟨g, A1, c1, rfl, hS, hb1⟩
    have hb2 : Below w1.heap.size w1 (w1.alloc (Obj.cells #[.pointer (some ⟨g, 0, none⟩)] 84)) := (Below.refl _ _).alloc (Nat.le_refl _) _
    have hRS : RS w (w1.alloc (Obj.cells #[.pointer (some ⟨g, 0, none⟩)] 84)) w1.heap.size W0.heap.size g (l.take 16) A1 c1 0 :=
      ⟨thn (thn hb0 hb1) hb2, hz0, ((thn hb1 hb2).block _ (by omega)).trans p0, ((thn hb1 hb2).block _ (by omega)).trans p1, hS.keep hb2, heap_alloc_new _ _, by have := hS.lt; omega⟩
    have hrv := hRS.cell
    go_wp2_with fail
    generalize (w1.alloc (Obj.cells #[.pointer (some ⟨g, 0, none⟩)] 84)) = W1 at *
    refine (read32_any g A1 (l.take 16) 16 c1 0 (List.length_take_of_le (by omega)) (by omega) hRS.rs.own.cap_le hRS.rs.own.cap_max W1 hRS.rs.own.rd hRS.rs.blk).mono ?_
    rintro e W2 ⟨rfl, hg2, hk2⟩
    rw [cut16 l 0 4 (by omega), List.drop_zero]
    have hR2 := hRS.step hg2 hk2
    have hN := num_lt (l.take 4)
    rw [List.length_take_of_le (by omega)] at hN
    generalize hNe : num (l.take 4) = N at *
    have HNe := Lib.hid hNe
    clear hNe hRS hrv ht16 hS hb1 hb2 hg2 hk2 p0 p1
    by_cases h4096 : 4096 < N
    · have e : fread seed l = (0, [], 0, 0, 3) := by rw [fread, if_neg (by omega), HNe.out, if_pos h4096]
      have E := Lib.hid e; clear e
      go_wp2_with (first
        | (refine wpList_load_row rfl _ (.tmp 8) rfl _ rfl _ _ _ _ hR2.r1 Try.underlying34 rfl (by kernel_rfl) ?_)
        | (refine wpList_store_row rfl _ (.tmp 4) (.tmp 30) rfl _ #[.int .i64 0, .slice none 0 0] rfl rfl _ _ hR2.r0 (by kernel_rfl) rfl (by kernel_rfl) ?_))
      rw [E.out]
      refine read_fail (k := 3) hR2 ?_ ?_ ?_ ?_ ?_ ?_ <;> rfl
    · have hrv := hR2.cell
      go_wp2_with fail
      refine (number_at _ 9223372036854775806 (by omega) g A1 (l.take 16) 16 c1 (0 + 4) (by omega) (List.length_take_of_le (by omega)) (by omega) hR2.rs.own.cap_le hR2.rs.own.cap_max W2 hR2.rs.own.rd hR2.rs.blk).mono ?_
      rintro e W3 ⟨z, rfl, hz, hg3, hk3⟩
      rw [Nat.zero_add] at hz hk3 ⊢
      rw [cut16 l 4 8 (by omega)] at hz ⊢
      have hR3 := hR2.step hg3 hk3
      clear hg3 hk3 hR2 hrv
      generalize hLe : num ((l.drop 4).take 8) = L at *
      have HLe := Lib.hid hLe
      clear hLe
      by_cases hB : numB L 9223372036854775806 = false
      · have e : fread seed l = (0, [], 0, 0, 4) := by rw [fread, if_neg (by omega), HNe.out, if_neg h4096, HLe.out, if_pos hB]
        have E := Lib.hid e; clear e
        rw [hB]
        clear hB hz
        go_wp2_with (first
          | (refine wpList_load_row rfl _ (.tmp 8) rfl _ rfl _ _ _ _ hR3.r1 Try.underlying34 rfl (by kernel_rfl) ?_)
          | (refine wpList_store_row rfl _ (.tmp 4) (.tmp 38) rfl _ #[.int .i64 0, .slice none 0 0] rfl rfl _ _ hR3.r0 (by kernel_rfl) rfl (by kernel_rfl) ?_))
        rw [E.out]
        refine read_fail (k := 4) hR3 ?_ ?_ ?_ ?_ ?_ ?_ <;> rfl
      · have hBt : numB L 9223372036854775806 = true := by cases h : numB L 9223372036854775806 <;> simp_all
        obtain rfl := hz hBt
        rw [hBt]
        have hL : 1 ≤ L ∧ L ≤ 9223372036854775806 := by simpa [numB] using hBt
        have HB := Lib.hid hBt
        clear hB hBt hz
        by_cases hsz : n < 16 + N
        · have e : fread seed l = (0, [], 0, 0, 2) := by rw [fread, if_neg (by omega), HNe.out, if_neg h4096, HLe.out, if_neg (by rw [HB.out]; decide), if_pos (by omega)]
          have E := Lib.hid e; clear e
          have hd2 : decide ((n : Int) < 16 + (N : Int)) = true := by simp; omega
          go_wp2_with (first
            | (refine wpList_load_row rfl _ (.tmp 8) rfl _ rfl _ _ _ _ hR3.r1 Try.underlying34 rfl (by kernel_rfl) ?_)
            | (refine wpList_store_row rfl _ (.tmp 4) (.tmp 46) rfl _ #[.int .i64 0, .slice none 0 0] rfl rfl _ _ hR3.r0 (by kernel_rfl) rfl (by kernel_rfl) ?_))
          rw [E.out]
          refine read_fail (k := 2) hR3 ?_ ?_ ?_ ?_ ?_ ?_ <;> rfl
        · have hd2 : decide ((n : Int) < 16 + (N : Int)) = false := by simp; omega
          have hcs : 16 + N ≤ cp := by omega
          have e16 : Hid (((16 : Int) + (N : Int)) = ((16 + N : Nat) : Int)) := by show _ = _; omega
          have hrW := hr.keep hR3.below
          have hbel3 := hR3.below
          go_wp2_with (first
            | (refine wpList_slice_lh rfl (.tmp 47) (.const (.int .i64 16)) (.tmp 48) rfl 16 (16 + N) rfl rfl (val_int e16.out) (by omega) hcs ?_; intro A2 hA2; have hrd := rd_take (n := 16 + N) hrW hA2.out hl hc)
            | (at_builtin; refine wpList_append_s rfl (.const (.slice none 0 0)) (.tmp 49) rfl rfl rfl (Own.nil W3.heap.size W3) hrd (by simp; omega) (by omega) (Nat.le_refl _) ?_; intro A4 c4 W4 ho4 hb4))
          rw [Nat.add_sub_cancel_left, Nat.zero_add, List.nil_append] at ho4
          generalize hDe : (l.drop 16).take N = D at *
          have HDe := Lib.hid hDe
          clear hDe hrd hA2 hrW hbel3 e16
          have hR4 := hR3.keep hb4
          have hg3 : g < W3.heap.size := hR3.rs.lt
          refine (sums_n seed hsd L (by omega) D N ho4.len (by omega) A4 c4 W4 ho4.rd).mono ?_
          rintro e W5 ⟨rfl, hb5⟩
          have hS := fsum_lt seed L D
          generalize hSe : fsum seed L D = S at *
          have HSe := Lib.hid hSe
          clear hSe
          have hR5 := hR4.keep hb5
          have ho5 := ho4.keep hb5
          have hrv5 := hR5.cell
          clear hR3 hR4 hb4 hb5 ho4
          go_wp2_with fail
          refine (read32_any g A1 (l.take 16) 16 c1 (4 + 8) (List.length_take_of_le (by omega)) (by omega) hR5.rs.own.cap_le hR5.rs.own.cap_max W5 hR5.rs.own.rd hR5.rs.blk).mono ?_
          rintro e W6 ⟨rfl, hg6, hk6⟩
          rw [cut16 l 12 4 (by omega)]
          have hR6 := hR5.step hg6 hk6
          have ho6 := ho5.grown hg6 fun ad hA e => by have := (ho5.lt ad hA).1; injection e; omega
          clear hrv5 hR5 ho5 hg6 hk6
          generalize hKe : num ((l.drop 12).take 4) = K at *
          have HKe := Lib.hid hKe
          clear hKe
          go_wp2_with fail
          refine (mask_any S hS _).mono ?_
          rintro e W7 ⟨rfl, rfl⟩
          by_cases hm : K = mask S
          · have hbm : ((K : Int) != (mask S : Int)) = false := by rw [hm]; simp
            have e : fread seed l = (L, D, 16 + N, S, 0) := by
              rw [fread, if_neg (by omega), HNe.out, if_neg h4096, HLe.out, if_neg (by rw [HB.out]; decide), if_neg (by omega), HDe.out, HSe.out, HKe.out, if_neg (by simp [hm])]
            have E := Lib.hid e; clear e hm
            go_wp2_with (first
              | (refine wpList_store_row rfl _ (.tmp 4) (.tmp 64) rfl _ #[.int .i64 L, .slice A4 N c4] rfl rfl _ _ hR6.r0 (by kernel_rfl) rfl (by kernel_rfl) ?_))
            rw [E.out]
            have hw3 : w.heap.size < W3.heap.size := by have := hR6.two; have := hR6.rs.low; omega
            refine read_ret rfl rfl (setRow_heap W6 _ _ _ _ _ hR6.r0) ⟨A4, N, c4, ?_, ?_, ?_⟩
            · rw [show (((L, D, 16 + N, S, 0) : Nat × List UInt8 × Nat × Nat × Nat).2.2.1 : Int) = 16 + (N : Int) from by simp]
              rfl
            · have hgs : W6.grownBy (W6.setRow w.heap.size #[.int .i64 L, .slice A4 N c4]) (some w.heap.size) := ⟨rfl, rfl, rfl, by simp, fun j _ hne => setRow_other _ _ j _ (fun e => hne (by rw [e]))⟩
              exact (ho6.grown hgs fun ad hA e => by have := (ho6.lt ad hA).1; injection e; omega).mono (Nat.le_of_lt hw3)
            · exact hR6.below.trans ⟨rfl, rfl, rfl, by simp, fun j hj => setRow_other _ _ j _ (by omega)⟩
          · have hbm : ((K : Int) != (mask S : Int)) = true := by simp; omega
            have e : fread seed l = (0, [], 0, 0, 5) := by
              rw [fread, if_neg (by omega), HNe.out, if_neg h4096, HLe.out, if_neg (by rw [HB.out]; decide), if_neg (by omega), HDe.out, HSe.out, HKe.out, if_pos hm]
            have E := Lib.hid e; clear e hm
            go_wp2_with (first
              | (refine wpList_load_row rfl _ (.tmp 8) rfl _ rfl _ _ _ _ hR6.r1 Try.underlying34 rfl (by kernel_rfl) ?_)
              | (refine wpList_store_row rfl _ (.tmp 4) (.tmp 61) rfl _ #[.int .i64 0, .slice none 0 0] rfl rfl _ _ hR6.r0 (by kernel_rfl) rfl (by kernel_rfl) ?_))
            rw [E.out]
            refine read_fail (k := 5) hR6 ?_ ?_ ?_ ?_ ?_ ?_ <;> rfl
end Go.Proofs.Ytdfabjkffjacoaa
