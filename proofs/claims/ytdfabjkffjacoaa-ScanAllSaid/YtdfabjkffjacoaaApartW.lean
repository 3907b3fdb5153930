/- Walk: flumelaw1.Bytes.Apart. -/
import Derived.Test.YtdfabjkffjacoaaApart
namespace Go.Proofs.Ytdfabjkffjacoaa
open Go.RowKit

def mk (s i : Nat) : UInt8 := UInt8.ofNat (i / s % 250)
/-- below B nothing has changed, and no deferred call's block anywhere -/
structure BelD (B : Nat) (w w' : World) : Prop where
  bl : Below B w w'
  df : ∀ (j : Nat) o, w.heap[j]? = some (Obj.deferred o) → w'.heap[j]? = some (Obj.deferred o)
theorem BelD.refl (B : Nat) (w : World) : BelD B w w := ⟨Below.refl _ _, fun _ _ h => h⟩
theorem BelD.trans {B : Nat} {w w1 w2 : World} (h : BelD B w w1) (h' : BelD B w1 w2) : BelD B w w2 := ⟨h.bl.trans h'.bl, fun j o hj => h'.df j o (h.df j o hj)⟩
theorem BelD.drew (B : Nat) (w : World) (k : Nat) : BelD B w (w.drewN k) := ⟨drewN_below _ _ _, fun _ _ h => h⟩
/-- rows of cells have changed -/
theorem BelD.of {B : Nat} {R : Nat → Prop} {w w1 : World} (hO : Only R w w1) (hB : B ≤ w.heap.size) (hR : ∀ j : Nat, R j → B ≤ j ∧ ∃ C t f, w.heap[j]? = some (Obj.cells C t f)) : BelD B w w1 :=
  ⟨hO.below hB fun j hj => (hR j hj).1, fun j o hj => (hO.block j (Array.getElem?_eq_some_iff.1 hj).1 fun hr => by
    obtain ⟨_, C, t, f, hc⟩ := hR j hr
    rw [hj] at hc
    cases hc).trans hj⟩
theorem own_cells {B n c : Nat} {w : World} {A : Option Addr} {l : List UInt8} (h : Own B w A n c l) : ∀ ad, A = some ad → ∃ C t f, w.heap[ad.block]? = some (Obj.cells C t f) := fun ad ha => by
  rcases h.2 with ⟨hv, _⟩ | ⟨g, cap, cur, hv, _, hg, _⟩
  · rw [ha] at hv; cases hv
  · rw [ha] at hv
    injection hv with hv
    injection hv with hv
    rw [hv]
    exact ⟨_, _, _, hg⟩
theorem rows_cells {B n size m c : Nat} {t : TypeId} {w : World} {A : Option Addr} {l : List Value} (h : w.ownsRow B t size (.slice A m c) n l) : ∀ ad, A = some ad → ∃ C t f, w.heap[ad.block]? = some (Obj.cells C t f) := fun ad ha => by
  rcases h.2 with ⟨hv, _⟩ | ⟨g, cap, cur, hv, _, hg, _⟩
  · rw [ha] at hv; cases hv
  · rw [ha] at hv
    injection hv with hv
    injection hv with hv
    rw [hv]
    exact ⟨_, _, _, hg⟩
structure AI (B : Nat) (w wr : World) (p : Nat) (L : Option Addr) (m mc : Nat) (sz : Int) (s i i' M : Nat) (es : List Ent) : Prop where
  kept : KeptL B wr p L m mc sz es
  fl : ∀ j (h : j < es.length), j < i → ∀ b ∈ es[j].l, b = mk s j
  bd : ∀ j (h : j < es.length), es[j].n ≤ if j < i' then M + 5000 else M
  bl : BelD B w wr

def lenAt (w : World) (g k : Nat) : Nat := match w.cell? ⟨g, k, none⟩ with
  | some (.slice _ n _) => n
  | _ => 0
theorem lenAt_of {w : World} {g k n c : Nat} {A : Option Addr} (h : w.cell? ⟨g, k, none⟩ = some (.slice A n c)) : lenAt w g k = n := by unfold lenAt; rw [h]

theorem AI.set {B p m mc s i M k : Nat} {w wr w8 : World} {L : Option Addr} {sz : Int} {es : List Ent} {x : Ent} (h : AI B w wr p L m mc sz s i (k + 1) M es) (_hk : k < es.length) (hK : KeptL B w8 p L m mc sz (es.set k x)) (hn : x.n ≤ M + 5000) (hb : BelD B wr w8) (hik : i ≤ k := by omega) :
    AI B w w8 p L m mc sz s i (k + 1) M (es.set k x) := by
  refine ⟨hK, fun j hj hji => ?_, fun j hj => ?_, h.bl.trans hb⟩
  · rw [List.getElem_set, if_neg (by omega)]
    exact h.fl j (by simpa using hj) hji
  · rw [List.getElem_set]
    split
    · rename_i hkj
      rw [if_pos (by omega)]
      exact hn
    · exact h.bd j (by simpa using hj)

theorem Only.mono {R R' : Nat → Prop} {w w1 : World} (h : Only R w w1) (hR : ∀ j, R j → R' j) : Only R' w w1 := ⟨h.os, h.tape, h.output, h.size, fun j hj hn => h.block j hj fun hr => hn (hR j hr)⟩
theorem mk_val (s k : Nat) : Value.int .u8 (IntKind.u8.wrap (((k : Int) / (s : Int)).tmod 250)) = bval (mk s k) := by
  rw [← Int.natCast_ediv, show ((250 : Int)) = ((250 : Nat) : Int) from rfl, Int.tmod_eq_emod_of_nonneg (Int.natCast_nonneg _), ← Int.natCast_emod, IntKind.wrap_u8, bval, mk, UInt8.toNat_ofNat']
  generalize k / s % 250 = d
  congr 1

theorem wp_app0 {o : Oper} {a : Act} {K : Act → World → Prop} {Q : Exit → Act → World → Prop} {w : World} (s x : Operand)
    (ho : o.op = .call { callee := .builtin .append, args := #[s, x], argTypes := #[31, 31] })
    {B n c bl : Nat} {A : Option Addr} {l : List UInt8} (hs : a.eval s = .slice A n c) (hx : a.eval x = .slice (some ⟨bl, 0, none⟩) 1 1)
    (hown : Own B w A n c l) (hbl : w.cell? ⟨bl, 0, none⟩ = some (.int .u8 0)) (hm : n ≤ 1000000000) (hB : B ≤ w.heap.size)
    (h : ∀ A' c' w', Own B w' A' (n + 1) c' (l ++ [0]) → Only (fun j => ∃ bd, A = some bd ∧ j = bd.block) w w' → (∀ ad, A' = some ad → (∃ bd, A = some bd ∧ ad.block = bd.block) ∨ w.heap.size ≤ ad.block) →
      K (a.put o.dst (.slice A' (n + 1) c')) w') : Oper.wp Try.prog o a w K Q := by
  have hr : Rd w (some ⟨bl, 0, none⟩) (bv [0]) := fun j u hj => by
    cases j with
    | zero => simp [bv, bval] at hj; subst hj; exact ⟨_, rfl, by rw [addr0]; exact hbl⟩
    | succ j => simp [bv] at hj
  obtain ⟨A2, c2, w2, hrun, h2, h3, h4⟩ := run_append_b w o.type B n c 1 1 A (some ⟨bl, 0, none⟩) l [0] hown hr rfl (by omega) hB
  have hob : ∀ j, A.map (·.block) = some j → ∃ bd, A = some bd ∧ j = bd.block := fun j hj => by
    cases A with
    | none => cases hj
    | some bd => cases hj; exact ⟨bd, rfl, rfl⟩
  unfold Oper.wp execOp
  simp only [ho, resolve, invoke, builtin, Sem.run_bind, Sem.run_pure, Result.andThen_ok, List.map_toArray, List.map_cons, List.map_nil, hs, hx, hrun]
  exact h A2 c2 w2 h2 (Only.of_grown h3 hob) (fun ad ha => (h4 ad ha).imp (fun e => hob _ e) (fun e => Nat.le_of_eq e.symm))

set_option maxRecDepth 100000 in
set_option maxHeartbeats 4000000 in
theorem apart_any (B p m mc : Nat) (L : Option Addr) (sz : Int) (es : List Ent) (w : World) (hK : KeptL B w p L m mc sz es) (hS : SzOk m sz es) :
    Calls Try.prog 20 #[.pointer (some ⟨p, 0, none⟩)] w fun e w' => e = .returned (.bool true) ∧ BelD B w w' := by
  have hm4 : m ≤ 4194304 := by have := hS.1; have := hS.2.1; omega
  go_enter Try.func20, Try.ntmps20
  go_wp2
  go_loopw [3, 4, 5, 6, 7, 8] (fun s _ _ _ _ _ wr => ∃ (r : Nat) (es' : List Ent), r ≤ 2 ∧ s = .int .i64 (250 ^ r : Nat) ∧ AI B w wr p L m mc sz 1 0 0 (4194304 + 5000 * r) es') (fun s _ _ _ _ _ _ => 62501 - (intOf s).toNat)
  case atStart => exact ⟨0, es, by omega, rfl, hK, fun j _ h => absurd h (Nat.not_lt_zero _), fun j h => by rw [if_neg (by omega)]; exact hS.2.2 _ (List.getElem_mem h), BelD.refl _ _⟩
  case round =>
    obtain ⟨r, es1, hr, rfl, hA⟩ := hrel
    by_cases hr2 : r < 2
    · have hs1 : 1 ≤ 250 ^ r ∧ 250 ^ r ≤ 250 := by
        have : r = 0 ∨ r = 1 := by omega
        rcases this with rfl | rfl <;> decide
      have hsn : 250 ^ (r + 1) = 250 * 250 ^ r := by rw [Nat.pow_succ, Nat.mul_comm]
      have Hsn := Lib.hid hsn
      clear hsn
      generalize hse : 250 ^ r = s at *
      have hle : decide ((s : Int) ≤ 250) = true := by simp; omega
      clear hse
      generalize hMe : 4194304 + 5000 * r = M at *
      have hM : M ≤ 5000000 := by omega
      go_wp2_with fail
      go_loopw [4, 5, 6] (fun i _ _ wr => ∃ (k : Nat) (es' : List Ent), k ≤ m ∧ i = .int .i64 k ∧ AI B w wr p L m mc sz s k k M es') (fun i _ _ _ => m - (intOf i).toNat)
      case atStart => exact ⟨0, es1, by omega, rfl, ⟨hA.kept, fun j _ h => absurd h (Nat.not_lt_zero _), hA.bd, hA.bl⟩⟩
      case round =>
        obtain ⟨k, es2, hk, rfl, hA2⟩ := hrel
        have c0 := cell_of_row _ _ 0 _ _ _ hA2.kept.blk
        by_cases hlt : k < m
        · have hke : k < es2.length := by have := hA2.kept.len; omega
          obtain ⟨g, rfl, hLc, hLf⟩ := rows_open hA2.kept.own (by omega)
          have ck := hLc k es2[k].val (by rw [List.getElem?_map, List.getElem?_eq_getElem hke]; rfl)
          have hnb := hA2.bd k hke
          rw [if_neg (by omega)] at hnb
          have hrq := fun q => room_quiet es2[k].n es2[k].c (by omega) wr q
          have hNb : min es2[k].c (es2[k].n + 5000) ≤ M + 5000 := by omega
          simp only [Ent.val] at ck
          generalize hNe : min es2[k].c (es2[k].n + 5000) = N at *
          have hk0 : (0 : Int) ≤ (k : Int) := by omega
          have hk1 : (k : Int) < (m : Int) := by omega
          clear hNe hLc
          go_wp2_with fail
          go_quiet (first | (go_at_call 42; exact hrq _))
          go_wp2_with fail
          have hA3 := hA2
          have hw3 : BelD B wr (wr.drewN nq) := BelD.drew _ _ _
          go_loopw [39] (fun _ wq => ∃ (es' : List Ent), AI B w wq p (some ⟨g, 0, none⟩) m mc sz s k (k + 1) M es') (fun _ wq => N - lenAt wq g k)
          case atStart => exact ⟨es2, ⟨hA2.kept.keep (drewN_below _ _ _), hA2.fl, fun j h => by have := hA2.bd j h; split at this <;> split <;> omega, hA2.bl.trans hw3⟩⟩
          case round =>
            obtain ⟨es3, hA4⟩ := hrel
            have hke3 : k < es3.length := by have := hA4.kept.len; omega
            obtain ⟨g', hg', hLc, hLf⟩ := rows_open hA4.kept.own (by omega)
            cases hg'
            have ck3 := hLc k es3[k].val (by rw [List.getElem?_map, List.getElem?_eq_getElem hke3]; rfl)
            have ck0 := ck3
            have hbn := hA4.bd k hke3
            rw [if_pos (by omega)] at hbn
            have hx := hA4.kept.each _ (List.getElem_mem hke3)
            have hLf3 := hLf k
            have c3 := cell_of_row _ _ 0 _ _ _ hA4.kept.blk
            simp only [Ent.val] at ck3
            clear hLc hLf
            by_cases hlt3 : es3[k].n < N
            · have hBw : B ≤ wr.heap.size := by have := hA4.kept.low; have := hA4.kept.lt; omega
              go_wp2_with fail
              have c3' := fun o => keep_cell (below_alloc_drew wr o) c3
              have ck3' := fun o => keep_cell (below_alloc_drew wr o) ck3
              have hplt := hA4.kept.lt
              have hglt := (hA4.kept.Llt ⟨g, 0, none⟩ rfl).2
              have hpr : ¬ es3[k].row p := fun ⟨ad, ha, he⟩ => hA4.kept.off _ (List.getElem_mem hke3) ad ha (.inl he.symm)
              have hgr : ¬ es3[k].row g := fun ⟨ad, ha, he⟩ => hA4.kept.off _ (List.getElem_mem hke3) ad ha (.inr ⟨_, rfl, he.symm⟩)
              go_region_law
                (first
                  | (rw [if_pos (by rfl)]; refine wp_app0 (.tmp 60) (.tmp 61) rfl rfl rfl (hx.keep (below_alloc_drew wr _)) (cell_of_row _ _ 0 _ _ _ (heap_alloc_new wr _)) (by omega) (Nat.le_trans hBw (below_alloc_drew wr _).size) ?_; intro A7 cc7 w7 ho7 hO7 hat7
                     have hO37 : Only es3[k].row wr w7 := Only.trans (R' := es3[k].row) (Only.of_below (below_alloc_drew wr _)) hO7 (fun j _ h => h)
                     have d7 := hO37.cell (a := ⟨p, 0, none⟩) hpr c3
                     have e7 := hO37.cell (a := ⟨g, k, none⟩) hgr ck3
                     have f7 := (World.frozen?_of_block (hO37.block g hglt hgr) : w7.frozen? ⟨g, k, none⟩ = _).trans hLf3))
              all_goals
                have hK8 := hA4.kept.turn k hke3 ⟨A7, es3[k].n + 1, cc7, es3[k].l ++ [0]⟩ hO37 ho7 (fun ad ha => (hat7 ad ha).imp_right fun h => Nat.le_trans (below_alloc_drew wr _).size h)
                have hA8 := hA4.set hke3 hK8 (by simp only; omega) ((BelD.of hO37 hBw fun j ⟨ad, ha, he⟩ => by rw [he]; exact ⟨(hx.lt ad ha).1, own_cells hx ad ha⟩).trans (BelD.of (only_set w7 g k _) (Nat.le_trans hBw hO37.size) fun j hj => by rw [hj]; exact ⟨(hA4.kept.Llt ⟨g, 0, none⟩ rfl).1, by rw [hO37.block g hglt hgr]; exact rows_cells hA4.kept.own ⟨g, 0, none⟩ rfl⟩))
                have hl1 := lenAt_of ck3
                have hl2 : lenAt (w7.setCell ⟨g, k, none⟩ (.slice A7 (es3[k].n + 1) cc7)) g k = es3[k].n + 1 := lenAt_of (World.cell?_setCell_same _ _ _ e7)
                go_wp2_with fail
                exact ⟨⟨_, hA8⟩, by rw [hl1, hl2]; omega⟩
            · go_wp2_with fail
              generalize hn0 : es3[k].n = n0 at *
              go_loopw [6] (fun x wq => ∃ (q : Nat) (es' : List Ent) (hk' : k < es'.length), q ≤ n0 ∧ x = .int .i64 q ∧ AI B w wq p (some ⟨g, 0, none⟩) m mc sz s k (k + 1) M es' ∧ es'[k].n = n0 ∧ ∀ j, j < q → es'[k].l[j]? = some (mk s k)) (fun x _ => n0 - (intOf x).toNat)
              case atStart => exact ⟨0, es3, hke3, by omega, rfl, hA4, hn0, fun j h => absurd h (Nat.not_lt_zero _)⟩
              case round =>
                obtain ⟨q, es5, hke5, hq, rfl, hA5, hn5, hfl5⟩ := hrel
                obtain ⟨g', hg', hLc5, _⟩ := rows_open hA5.kept.own (by omega)
                cases hg'
                have ck5 := hLc5 k es5[k].val (by rw [List.getElem?_map, List.getElem?_eq_getElem hke5]; rfl)
                have hx5 := hA5.kept.each _ (List.getElem_mem hke5)
                have c5 := cell_of_row _ _ 0 _ _ _ hA5.kept.blk
                simp only [Ent.val, hn5] at ck5
                rw [hn5] at hx5
                clear hLc5
                by_cases hlt5 : q < n0
                · obtain ⟨ga, hga⟩ := own_open hx5 (by omega)
                  rw [hga] at ck5 hx5
                  obtain ⟨adb, hadb, hcb⟩ := hx5.rd.byte (k := q) (by rw [hx5.len]; exact hlt5)
                  cases hadb
                  have hfb := hx5.frozen q
                  rw [addr0] at hcb hfb
                  have hq0 : (0 : Int) ≤ (q : Int) := by omega
                  have hq1 : (q : Int) < (n0 : Int) := by omega
                  have hs0 : ¬ s = 0 := by omega
                  have hks : ((k / s : Nat) : Int) = (k : Int) / (s : Int) := Int.natCast_ediv k s
                  have hks1 : k / s ≤ k := Nat.div_le_self k s
                  have hws : IntKind.i64.wrap ((k : Int) / (s : Int)) = (k : Int) / (s : Int) := by rw [← hks, IntKind.wrap_i64]; clear hks; generalize k / s = d at *; omega
                  go_wp2_with fail
                  go_region_law (fail)
                  all_goals
                    rw [mk_val]
                    have hx8 := (hx5.set q (mk s k)).keep (w' := (wr.setCell ((⟨ga, 0, none⟩ : Addr).add q) (bval (mk s k))).drew) ⟨rfl, rfl, rfl, Nat.le_refl _, fun _ _ => rfl⟩
                    rw [addr0] at hx8
                    have hO8 : Only es5[k].row wr (wr.setCell ⟨ga, q, none⟩ (bval (mk s k))).drew := ((only_set wr ga q (bval (mk s k))).trans (Only.of_below (R := fun _ => False) (w := wr.setCell ⟨ga, q, none⟩ (bval (mk s k))) (w1 := (wr.setCell ⟨ga, q, none⟩ (bval (mk s k))).drew) ⟨rfl, rfl, rfl, Nat.le_refl _, fun _ _ => rfl⟩) (fun _ _ h => h.elim)).mono fun j hj => ⟨_, hga, hj⟩
                    generalize (wr.setCell ⟨ga, q, none⟩ (bval (mk s k))).drew = w8 at *
                    have hx8' : Own B w8 es5[k].A es5[k].n es5[k].c (es5[k].l.set q (mk s k)) := by rw [hga, hn5]; exact hx8
                    have hK8 := hA5.kept.fill k hke5 (es5[k].l.set q (mk s k)) hO8 hx8'
                    have hA8 := hA5.set hke5 hK8 (by simp only; omega) (BelD.of hO8 (by have := (hx5.lt _ rfl); omega) fun j ⟨ad, ha, he⟩ => by rw [hga] at ha; cases ha; rw [he]; exact ⟨(hx5.lt _ rfl).1, own_cells hx5 _ rfl⟩)
                    go_wp2_with fail
                    refine ⟨⟨q + 1, _, by rw [List.length_set]; exact hke5, by omega, by go_num, hA8, by rw [List.getElem_set_self]; exact hn5, fun j hj => ?_⟩, by simp [intOf]; omega⟩
                    rw [List.getElem_set_self]
                    simp only
                    rw [List.getElem?_set]
                    split
                    · rw [if_pos (by rw [hx5.len]; exact hlt5)]
                    · exact hfl5 j (by omega)
                · obtain rfl : q = n0 := by omega
                  go_wp2_with fail
                  refine ⟨⟨k + 1, es5, by omega, by go_num, hA5.kept, fun j hj hjk b hb => ?_, hA5.bd, hA5.bl⟩, by simp [intOf]; omega⟩
                  by_cases hjk' : j < k
                  · exact hA5.fl j hj hjk' b hb
                  · obtain rfl : j = k := by omega
                    obtain ⟨t, ht, rfl⟩ := List.getElem_of_mem hb
                    have h1 := hfl5 t (by rw [hx5.len] at ht; exact ht)
                    rw [List.getElem?_eq_getElem ht] at h1
                    exact Option.some.inj h1
        · obtain rfl : k = m := by omega
          have hel := hA2.kept.len
          have hnx := hA2.kept
          go_wp2_with fail
          go_loopw [7, 8] (fun x _ wq => ∃ (i u : Nat), i ≤ k ∧ x = .int .i64 i ∧ wq = wr.drewN u) (fun x _ _ => k - (intOf x).toNat)
          case atStart => exact ⟨0, 0, by omega, rfl, rfl⟩
          case round =>
            obtain ⟨i, u, hi, rfl, rfl⟩ := hrel
            by_cases hlt5 : i < k
            · have hie : i < es2.length := by omega
              obtain ⟨g, rfl, hLc, _⟩ := rows_open hnx.own (by omega)
              have ck := hLc i es2[i].val (by rw [List.getElem?_map, List.getElem?_eq_getElem hie]; rfl)
              have hx := hnx.each _ (List.getElem_mem hie)
              have hfl := hA2.fl i hie hlt5
              simp only [Ent.val] at ck
              generalize es2[i] = x at *
              obtain ⟨xA, xn, xc, xl⟩ := x
              simp only at ck hx hfl
              have hi0 : (0 : Int) ≤ (i : Int) := by omega
              have hi1 : (i : Int) < (k : Int) := by omega
              clear hLc
              go_wp2_with fail
              go_loopw [8] (fun y wq => ∃ (q u : Nat), q ≤ xn ∧ y = .int .i64 q ∧ wq = wr.drewN u) (fun y _ => xn - (intOf y).toNat)
              case atStart => exact ⟨0, u, by omega, rfl, rfl⟩
              case round =>
                obtain ⟨q, u', hq, rfl, rfl⟩ := hrel
                by_cases hlq : q < xn
                · obtain ⟨ga, rfl⟩ := own_open hx (by omega)
                  obtain ⟨adb, hadb, hcb⟩ := hx.rd.byte (k := q) (by rw [hx.len]; exact hlq)
                  cases hadb
                  rw [addr0, hfl _ (List.getElem_mem _)] at hcb
                  have hv := mk_val s i
                  simp only [bval, Value.int.injEq, true_and] at hv
                  have hne : (((mk s i).toNat : Int) != IntKind.u8.wrap (((i : Int) / (s : Int)).tmod 250)) = false := by rw [hv]; simp
                  have hq0 : (0 : Int) ≤ (q : Int) := by omega
                  have hq1 : (q : Int) < (xn : Int) := by omega
                  have hs0 : ¬ s = 0 := by omega
                  have hks : ((i / s : Nat) : Int) = (i : Int) / (s : Int) := Int.natCast_ediv i s
                  have hks1 : i / s ≤ i := Nat.div_le_self i s
                  have hws : IntKind.i64.wrap ((i : Int) / (s : Int)) = (i : Int) / (s : Int) := by rw [← hks, IntKind.wrap_i64]; clear hks; generalize i / s = d at *; omega
                  have hne2 : (((mk s i).toNat : Int) != ((i : Int) / (s : Int)).tmod 250 % 256) = false := by rw [IntKind.wrap_u8] at hv; rw [hv]; simp
                  have hxn : xn ≤ 9223372036854775807 := by have := hx.cap_le; have := hx.cap_max; omega
                  clear hv hne
                  go_wp2_with fail
                  go_quiet (fail)
                  go_wp2_with fail
                  exact ⟨⟨q + 1, _, by omega, by go_num, rfl⟩, by simp [intOf]; omega⟩
                · go_wp2_with fail
                  exact ⟨⟨i + 1, u', by omega, by go_num, rfl⟩, by simp [intOf]; omega⟩
            · go_wp2_with fail
              refine ⟨⟨r + 1, es2, by omega, ?_, hnx.keep (drewN_below _ _ _), fun j _ h => absurd h (Nat.not_lt_zero _), fun j hj => ?_, hA2.bl.trans (BelD.drew _ _ _)⟩, ?_⟩
              · rw [Hsn.out]; go_num
              · have := hA2.bd j hj
                rw [if_pos (by omega)] at this
                rw [if_neg (by omega)]
                omega
              · simp [intOf]; omega
    · obtain rfl : r = 2 := by omega
      go_wp2_with fail
      go_ret
      exact ⟨rfl, hA.bl⟩
end Go.Proofs.Ytdfabjkffjacoaa
