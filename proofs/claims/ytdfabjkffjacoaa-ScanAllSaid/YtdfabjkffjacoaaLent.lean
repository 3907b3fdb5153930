/- Walks: flumelaw1.Lent, Back. -/
import Derived.Test.YtdfabjkffjacoaaEq
import Derived.Test.YtdfabjkffjacoaaOnly
import Derived.Deep.AppendLies
namespace Go.Proofs.Ytdfabjkffjacoaa
open Go.RowKit

theorem wpList_slice_h {ops : Array Oper} {rest : List Oper} {o : Oper} {a : Act} {w : World} {Q : Exit → Act → World → Prop} (hgd : o.guard = none) (x hi : Operand)
    (ho : o.op = .slice 31 x none (some hi) none) {A : Option Addr} {n c : Nat} {kl : IntKind} (h : Nat)
    (hx : a.eval x = .slice A n c) (hhi : a.eval hi = .int kl (h : Int)) (h2 : h ≤ c)
    (k : wpList Try.prog ops Q rest (a.put o.dst (.slice A h c)) w) : wpList Try.prog ops Q (o :: rest) a w := by
  obtain ⟨i, hi', _⟩ := info_parts Try.infoB
  refine wpList_plain hgd fun K hK => ?_
  have hr : (Instr.sliceAt 31 (.slice A n c) none (some (.int kl (h : Int))) none).run Try.prog w = .ok (.slice A h c) w := by
    have e2 : (h : Int) ≤ (c : Int) := by omega
    simp [go_sem, Instr.sliceAt, Instr.slice, Instr.sliceBounds, run_underlying Try.underlying31, sizeOf, typeInfo, hi', e2]
  unfold Oper.wp execOp
  simp only [ho, Option.map_some, Option.map_none, hx, hhi, Sem.run_bind, hr, Result.andThen_ok, Sem.run_pure]
  exact hK _ _ k

/-- lent: the bytes, two marks behind them -/
def marks : List UInt8 := [171, 172]
def LentP (w : World) (l : List UInt8) (n : Nat) (e : Ending) (w' : World) : Prop :=
  ∃ A c, e = .returned (.slice A n c) ∧ Own w.heap.size w' A (n + 2) c (l ++ marks) ∧ Below w.heap.size w w'

set_option maxHeartbeats 400000 in
theorem lent_any (l : List UInt8) (n c : Nat) (hl : l.length = n) (hn : n + 2 ≤ 140737488355328) (A : Option Addr) (w : World) (hr : Rd w A (bv l)) :
    Calls Try.prog 14 #[.slice A n c] w (LentP w l n) := by
  go_enter Try.func14, Try.ntmps14
  go_wp2_with (first
    | (at_builtin; refine wpList_append_s rfl (.const (.slice none 0 0)) (.tmp 4) rfl rfl rfl (Own.nil w.heap.size w) hr hl (by omega) (Nat.le_refl _) ?_; intro A1 c1 W1 ho1 hb1; rw [Nat.zero_add, List.nil_append] at ho1)
    | (at_builtin; refine wpList_append_s rfl (.tmp 6) (.tmp 7) rfl rfl rfl (ho1.alloc _) (rd_block (l := marks) rfl (heap_alloc_new W1 _)) rfl (by omega) (size_alloc_le hb1.size _) ?_; intro A2 c2 W2 ho2 hb2; have hc2 := ho2.cap_le)
    | (refine wpList_slice_h rfl (.tmp 8) (.tmp 10) rfl n rfl rfl (by omega) ?_))
  go_ret
  exact ⟨A2, c2, rfl, ho2, (hb1.alloc hb1.size _).trans hb2⟩

theorem xor85_all : ∀ n : Fin 256, bits BinOp.xor IntKind.u8 (n.val : Int) 85 = ((n.val ^^^ 85 : Nat) : Int) := by decide +kernel
theorem xor85_bv (x : UInt8) : bits BinOp.xor IntKind.u8 (x.toNat : Int) 85 = ((x.toNat ^^^ 85 : Nat) : Int) := xor85_all ⟨x.toNat, x.toNat_lt⟩
theorem xor85_val (x : UInt8) : Value.int .u8 ((x.toNat ^^^ 85 : Nat) : Int) = bval (x ^^^ 85) := by
  simp only [bval, UInt8.toNat_xor]; rfl

def BackP (w : World) (A : Option Addr) (e : Ending) (w' : World) : Prop := e = .returned (.bool true) ∧ w.grownBy w' (A.map (·.block))

set_option maxHeartbeats 1000000 in
theorem back_ok (l : List UInt8) (n c c' : Nat) (hl : l.length = n) (hn : n + 2 ≤ 9223372036854775807) (A A' : Option Addr) (B : Nat) (w : World) (ho : Own B w A (n + 2) c (l ++ marks)) (hr : Rd w A' (bv l)) (hne : ∀ ad ad', A = some ad → A' = some ad' → l ≠ [] → ad.block ≠ ad'.block) :
    Calls Try.prog 18 #[.slice A n c, .slice A' n c'] w (BackP w A) := by
  have hc := ho.cap_le
  have hml : marks.length = 2 := rfl
  obtain ⟨g, rfl⟩ : ∃ g, A = some ⟨g, 0, none⟩ := by
    rcases ho.2 with ⟨hv, h0⟩ | ⟨g, cap, cur, hv, _⟩
    · omega
    · injection hv with e _ _; exact ⟨g, e⟩
  obtain ⟨ad, hA, h171⟩ := ho.rd.byte (k := n) (by rw [List.length_append, hl, hml]; omega)
  cases hA
  obtain ⟨ad2, hA2, h172⟩ := ho.rd.byte (k := n + 1) (by rw [List.length_append, hl, hml]; omega)
  cases hA2
  have e1 : (l ++ marks)[n]'(by rw [List.length_append, hl, hml]; omega) = 171 := by rw [List.getElem_append_right (by omega)]; simp [hl, marks]
  have e2 : (l ++ marks)[n + 1]'(by rw [List.length_append, hl, hml]; omega) = 172 := by rw [List.getElem_append_right (by omega)]; simp [hl, marks]
  rw [e1, addr0] at h171
  rw [e2, addr0] at h172
  clear e1 e2
  have hn0 : (0 : Int) ≤ (n : Int) := by omega
  have hn1 : (n : Int) < (n : Int) + 2 := by omega
  have hn2 : (n : Int) + 1 < (n : Int) + 2 := by omega
  have h171' : w.cell? ⟨g, n, none⟩ = some (.int .u8 171) := h171
  have h172' : w.cell? ⟨g, n + 1, none⟩ = some (.int .u8 172) := h172
  have h171a : w.cell? ((⟨g, 0, none⟩ : Addr).add n) = some (.int .u8 171) := by rw [addr0]; exact h171
  have h172a : w.cell? ((⟨g, 0, none⟩ : Addr).add (n + 1)) = some (.int .u8 172) := by rw [addr0]; exact h172
  clear h171 h172
  have hgg : g < w.heap.size := (ho.lt _ rfl).2
  go_enter Try.func18, Try.ntmps18
  go_wp2_with (refine wpList_slice_h rfl (.tmp 12) (.tmp 15) rfl (n + 2) rfl rfl (by omega) ?_)
  go_loopw [5, 6] (fun b i wr => ∃ (k : Nat) (ys : List UInt8), k ≤ n ∧ i = .int .i64 k ∧ b = .bool true ∧ Own B wr (some ⟨g, 0, none⟩) (n + 2) c ys ∧ (∀ j, k ≤ j → j < n → ys[j]? = l[j]?) ∧ w.grownBy wr (some g)) (fun _ i _ => n - (intOf i).toNat)
  case atStart => exact ⟨0, l ++ marks, by omega, rfl, rfl, ho, fun j _ hj => by rw [List.getElem?_append_left (by omega)], World.grownBy.refl _ _⟩
  case round =>
    obtain ⟨k, ys, hk, rfl, rfl, hoy, hys, hg⟩ := hrel
    by_cases hlt : k < n
    · have hyl := hoy.len
      have hyk : ys[k]'(by omega) = l[k]'(by omega) := by
        have := hys k (Nat.le_refl _) hlt
        rw [List.getElem?_eq_getElem (by omega), List.getElem?_eq_getElem (by omega)] at this
        exact Option.some.inj this
      obtain ⟨ad, hA, h1⟩ := hoy.rd.byte (k := k) (by omega)
      cases hA
      obtain ⟨ad', rfl, h2⟩ := hr.byte (k := k) (by omega)
      have hb2 : ad'.block < w.heap.size := by have := World.block_lt_of_cell? w _ h2; rwa [block_of_add] at this
      have hne2 := hne _ ad' rfl rfl (by intro h; rw [h] at hl; simp at hl; omega)
      have h3 : wr.cell? (ad'.add k) = some (.int .u8 ((l[k]'(by omega)).toNat : Int)) := (hg.cell_far _ (by rw [block_of_add]; exact hb2) (by rw [block_of_add]; intro h; injection h with h; exact hne2 h.symm)).trans h2
      rw [hyk] at h1
      have h4 : wr.cell? ⟨g, k, none⟩ = some (.int .u8 ((l[k]'(by omega)).toNat : Int)) := by rw [← addr0]; exact h1
      have hx := xor85_bv (l[k]'(by omega))
      have hx0 := (l[k]'(by omega)).toNat_lt
      have hfz := hoy.frozen k
      have hfz2 : wr.frozen? ⟨g, k, none⟩ = false := by rw [← addr0]; exact hfz
      have hk0 : (0 : Int) ≤ (k : Int) := by omega
      have hk1 : (k : Int) < (n : Int) := by omega
      have hk2 : (k : Int) < (n : Int) + 2 := by omega
      have hset := hoy.set k (l[k]'(by omega) ^^^ 85)
      generalize l[k]'(by omega) = x at *
      clear h2 h171' h172' h171a h172a hr
      go_wp2
      go_quiet (fail)
      go_wp2
      rw [xor85_val]
      refine ⟨⟨k + 1, ys.set k (x ^^^ 85), by omega, by go_num, rfl, ?_, fun j hj1 hj2 => ?_, ?_⟩, by simp [intOf]; omega⟩
      · have := (hoy.keep (drewN_below _ _ nq)).set k (x ^^^ 85)
        rw [addr0] at this
        exact this
      · rw [List.getElem?_set, if_neg (by omega)]
        exact hys j (by omega) hj2
      · exact hg.trans (⟨rfl, rfl, rfl, by simp [World.setCell], fun j hj hne => by rw [heap_setCell_other _ _ _ _ (fun e => hne (by rw [e]))]; rfl⟩)
    · go_wp2
      go_ret
      exact ⟨rfl, hg⟩
end Go.Proofs.Ytdfabjkffjacoaa
