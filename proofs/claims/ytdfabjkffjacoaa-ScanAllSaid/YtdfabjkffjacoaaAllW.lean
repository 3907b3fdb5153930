/- Walk: flumelaw6.FrameAll. -/
import Derived.Test.YtdfabjkffjacoaaApartW
import Derived.Test.YtdfabjkffjacoaaHeadsW
import Derived.Deep.Slices
import Derived.Deep.RegionHeld3
namespace Go.Proofs.Ytdfabjkffjacoaa
open Go.RowKit

/-- a slice of records -/
structure Recs (w : World) (A : Option Addr) (n : Nat) (rs : List (Int × Value × List UInt8)) : Prop where
  rlen : rs.length = n
  each : ∀ i (h : i < rs.length), -9223372036854775808 ≤ rs[i].1 ∧ rs[i].1 ≤ 9223372036854775807 ∧
    ∃ ad D c, A = some ad ∧ rs[i].2.1 = .slice D rs[i].2.2.length c ∧ rs[i].2.2.length ≤ c ∧ c ≤ 9223372036854775807 ∧ Rd w D (bv rs[i].2.2) ∧
      w.cell? (ad.add (i * 2)) = some (.int .i64 rs[i].1) ∧ w.cell? (ad.add (i * 2 + 1)) = some rs[i].2.1
theorem Recs.keep {w w' : World} {A : Option Addr} {n : Nat} {rs : List (Int × Value × List UInt8)} (h : Recs w A n rs) (hb : Below w.heap.size w w') : Recs w' A n rs :=
  ⟨h.rlen, fun i hi => by
    obtain ⟨h1, h2, ad, D, c, hA, hv, h3, h4, hr, c0, c1⟩ := h.each i hi
    exact ⟨h1, h2, ad, D, c, hA, hv, h3, h4, hr.keep hb, keep_cell hb c0, keep_cell hb c1⟩⟩
/-- a slice of integers of one kind -/
structure Nums (w : World) (k : IntKind) (lo hi : Int) (A : Option Addr) (n : Nat) (zs : List Int) : Prop where
  zlen : zs.length = n
  each : ∀ i (h : i < zs.length), lo ≤ zs[i] ∧ zs[i] ≤ hi ∧ ∃ ad, A = some ad ∧ w.cell? (ad.add i) = some (.int k zs[i])
theorem Nums.keep {w w' : World} {k : IntKind} {lo hi : Int} {A : Option Addr} {n : Nat} {zs : List Int} (h : Nums w k lo hi A n zs) (hb : Below w.heap.size w w') : Nums w' k lo hi A n zs :=
  ⟨h.zlen, fun i hi => by
    obtain ⟨h1, h2, ad, hA, hc⟩ := h.each i hi
    exact ⟨h1, h2, ad, hA, keep_cell hb hc⟩⟩

theorem rsize_quiet (n : Int) (w : World) (k : Nat) (h0 : -9223372036854775808 ≤ n) (h1 : n ≤ 9223372036854775807) :
    Calls Try.prog 13 #[.int .i64 n] (w.drewN k) fun e w'' => e = .returned (.int .i64 (fsize n)) ∧ ∃ m, w'' = w.drewN m :=
  Calls.quiet_of_same ((rsize_any n _ h0 h1).mono fun _ _ h => ⟨h.1, h.2.symm⟩)
theorem size_quiet' (n : Int) (w : World) (k : Nat) (h0 : -9223372036854775808 ≤ n) (h1 : n ≤ 9223372036854775807) :
    Calls Try.prog 12 #[.int .i64 n] (w.drewN k) fun e w'' => e = .returned (.int .i64 (fsize n)) ∧ ∃ m, w'' = w.drewN m :=
  Calls.quiet_of_same ((size_any n _ h0 h1).mono fun _ _ h => ⟨h.1, h.2.symm⟩)

theorem fwrite_len (seed : Nat) (lsn : Int) (d : List UInt8) : (fwrite seed lsn d).1.length ≤ 4112 := by
  unfold fwrite
  split
  · simp
  · split
    · simp
    · simp only [frameB_length]; omega
theorem rd_vals2 {w : World} {g : Nat} {t : TypeId} {fr : Nat × Nat} {v0 v1 : Value} (h : w.heap[g]? = some (.cells #[v0, v1] t fr)) : Rd w (some ⟨g, 0, none⟩) [v0, v1] := fun j u hj => by
  refine ⟨_, rfl, ?_⟩
  rw [addr0, cell_of_row w g j _ t fr h]
  simpa using hj

/-- a keeper of a law's own, in its loop -/
def KS (B : Nat) (w : World) (p : Nat) : Prop := ∃ L m mc sz es, KeptL B w p L m mc sz es ∧ SzOk m sz es

set_option maxRecDepth 100000 in
set_option maxHeartbeats 4000000 in
theorem all_any (A1 A2 A3 : Option Addr) (n1 c1 n2 c2 n3 c3 : Nat) (rs : List (Int × Value × List UInt8)) (sd ns : List Int) (w : World)
    (hr : Recs w A1 n1 rs) (hs : Nums w .u32 0 4294967295 A2 n2 sd) (hz : Nums w .i64 (-9223372036854775808) 9223372036854775807 A3 n3 ns)
    (hn1 : n1 ≤ 9223372036854775807) (hn2 : n2 ≤ 9223372036854775807) (hn3 : n3 ≤ 9223372036854775807) (hb : ∀ r ∈ rs, r.2.2.length ≤ 1048576) :
    Calls Try.prog 3 #[.slice A1 n1 c1, .slice A2 n2 c2, .slice A3 n3 c3] w (EqRP w true) := by
  go_enter Try.func3, Try.ntmps3
  go_wp2_with fail
  refine (begun_any w).mono ?_
  rintro e W1 ⟨rfl, hb1⟩
  go_wp2_with fail
  go_loopw [7] (fun i wr => ∃ (k : Nat), k ≤ n3 ∧ i = .int .i64 k ∧ Below w.heap.size w wr) (fun i _ => n3 - (intOf i).toNat)
  case atStart => exact ⟨0, by omega, rfl, hb1⟩
  case round =>
    obtain ⟨k, hk, rfl, hbr⟩ := hrel
    have hz1 := hz.keep hbr
    by_cases hlt : k < n3
    · obtain ⟨g1, g2, ad, rfl, hc⟩ := hz1.each k (by have := hz1.zlen; omega)
      generalize ns[k]'(by have := hz1.zlen; omega) = z at *
      have hk0 : (0 : Int) ≤ (k : Int) := by omega
      have hk1 : (k : Int) < (n3 : Int) := by omega
      have hne : (fsize z != fsize z) = false := by simp
      go_wp2_with fail
      go_quiet (first
        | (go_at_call 12; exact size_quiet' z _ _ g1 g2)
        | (go_at_call 13; exact rsize_quiet z _ _ g1 g2))
      go_wp2_with fail
      exact ⟨⟨k + 1, by omega, by go_num, hbr.trans (drewN_below _ _ _)⟩, by simp [intOf]; omega⟩
    · have hb2 := hbr
      have hb3 := hb2.alloc hb2.size (Obj.cells #[.slice none 0 0, .int .i64 0] 30)
      have hp0 : (wr.alloc (Obj.cells #[.slice none 0 0, .int .i64 0] 30)).heap[wr.heap.size]? = some (.cells #[.slice none 0 0, .int .i64 0] 30 (0, 0)) := heap_alloc_new _ _
      have hpw : w.heap.size ≤ wr.heap.size := hb2.size
      have hK0 : KeptL w.heap.size (wr.alloc (Obj.cells #[.slice none 0 0, .int .i64 0] 30)) wr.heap.size none 0 0 0 [] :=
        ⟨hp0, World.ownsRow_nil _ _ _ _, rfl, fun e h => (by cases h), fun e h => (by cases h), List.Pairwise.nil, fun _ h => (by cases h), hpw⟩
      go_wp2_with fail
      generalize (wr.alloc (Obj.cells #[.slice none 0 0, .int .i64 0] 30)) = W2 at *
      clear hp0 hb2
      generalize wr.heap.size = p at *
      go_loopw [9, 10, 11, 12, 13, 14, 15, 16, 17, 18, 19] (fun i _ _ _ _ _ _ _ _ _ _ wr => ∃ (k : Nat), k ≤ n1 ∧ k ≤ n2 ∧ i = .int .i64 k ∧ Below w.heap.size w wr ∧ KS w.heap.size wr p) (fun i _ _ _ _ _ _ _ _ _ _ _ => n1 - (intOf i).toNat)
      case atStart => exact ⟨0, by omega, by omega, rfl, hb3, none, 0, 0, 0, [], hK0, by simp, by simp, fun e h => by cases h⟩
      case round =>
        obtain ⟨k, hk1, hk2, rfl, hbr, L, m, mc, sz, es, hK, hS⟩ := hrel
        have Hend : Hid (Calls Try.prog 20 #[.pointer (some ⟨p, 0, none⟩)] wr fun e w' => e = .returned (.bool true) ∧ Below w.heap.size w w') := (apart_any _ p m mc L sz es wr hK hS).mono fun e w' h => ⟨h.1, hbr.trans h.2.bl⟩
        by_cases hgo : k < n1 ∧ k < n2 ∧ k < 30
        · obtain ⟨hl1, hl2, hl3⟩ := hgo
          obtain ⟨g1, g2, ad1, D, cd, rfl, hv, hcd, hcm, hD, c0, c1'⟩ := (hr.keep hbr).each k (by have := hr.rlen; omega)
          obtain ⟨g3, g4, ad2, rfl, c2⟩ := (hs.keep hbr).each k (by have := hs.zlen; omega)
          have hdb := hb (rs[k]'(by have := hr.rlen; omega)) (List.getElem_mem _)
          rw [hv] at c1'
          generalize rs[k]'(by have := hr.rlen; omega) = rk at *
          obtain ⟨lsn, dv, d⟩ := rk
          simp only at g1 g2 hv hcd hD c0 c1' hdb
          generalize sd[k]'(by have := hs.zlen; omega) = z at *
          obtain ⟨seed, rfl⟩ := Int.eq_ofNat_of_zero_le g3
          have hsd : seed < 4294967296 := by omega
          have c1 : wr.cell? ⟨(ad1.add (k * 2)).block, (ad1.add (k * 2)).off + 1, none⟩ = some (.slice D d.length cd) := by rw [← Deep.add_add] at c1'; exact c1'
          have hk0 : (0 : Int) ≤ (k : Int) := by omega
          have hk1 : (k : Int) < (n1 : Int) := by omega
          have hk2' : (k : Int) < (n2 : Int) := by omega
          have hk3' : (k : Int) < 30 := by omega
          have hlen4 := fwrite_len seed lsn d
          generalize hre : fwrite seed lsn d = r at *
          obtain ⟨rb, rS, rc⟩ := r
          have HR := Lib.hid hre
          simp only at hlen4
          clear hre c1' hv Hend
          go_wp2_with fail
          refine (lent_any d d.length cd rfl (by omega) D wr hD).mono ?_
          rintro e W3 ⟨A3, c3, rfl, ho3, hb3⟩
          have hap := lent_apart ho3 hD
          have hc3 := ho3.cap_le
          have c03 := keep_cell hb3 c0
          have c13 := keep_cell hb3 c1
          have c23 := keep_cell hb3 c2
          have hl3 := rd_pre ho3.rd
          go_wp2_with fail
          go_region_held3 (fun w' => w'.cell? (ad1.add (k * 2)) = some (.int .i64 lsn) ∧ w'.cell? (ad2.add k) = some (.int .u32 seed)) (first | exact ⟨c03, c23⟩ | exact ⟨keep_cell hb5 c03, keep_cell hb5 c23⟩)
            (first | (go_at_call 15; refine (write_any seed hsd lsn g1 g2 d (by omega) A3 c3 W3.drew hl3).mono ?_; rw [HR.out]; rintro e w5 ⟨A5, n5, c5, rfl, ho5, hb5⟩))
          have hD5w : Below W3.heap.size W3 w5 := (drewN_below W3.heap.size W3 1).trans hb5
          have hb35 := thn hb3 hD5w
          have c15 := keep_cell hD5w c13
          have c05 := keep_cell hD5w c03
          have c25 := keep_cell hD5w c23
          have hD5 := hD.keep hb35
          have ho35 := ho3.keep hD5w
          have l33 := ho3.lt
          have e3 : W3.drew.heap.size = W3.heap.size := rfl
          clear c03 c13 c23 hl3 ho3
          go_wp2_with fail
          go_region_held3 (fun w' => w'.cell? (ad1.add (k * 2)) = some (.int .i64 lsn) ∧ w'.cell? (ad2.add k) = some (.int .u32 seed) ∧ w'.cell? ⟨(ad1.add (k * 2)).block, (ad1.add (k * 2)).off + 1, none⟩ = some (.slice D d.length cd)) (first | exact ⟨c05, c25, c15⟩ | exact ⟨keep_cell hb6 c05, keep_cell hb6 c25, keep_cell hb6 c15⟩)
            (first | (go_at_call 16; refine (rwrite_any seed hsd lsn g1 g2 d (by omega) D cd w5.drew hD5).mono ?_; rw [HR.out]; rintro e w6 ⟨A6, n6, c6, rfl, ho6, hb6⟩))
          have hD6w : Below w5.heap.size w5 w6 := (drewN_below w5.heap.size w5 1).trans hb6
          have hb36 := thn hb35 hD6w
          have c16 := keep_cell hD6w c15
          have c06 := keep_cell hD6w c05
          have c26 := keep_cell hD6w c25
          have hD6 := hD.keep hb36
          have ho36 := ho35.keep hD6w
          have ho56 := ho5.keep hD6w
          have e5 : w5.drew.heap.size = w5.heap.size := rfl
          have l57 := ho56.lt
          clear c05 c15 c25 ho35 ho5 hD5
          go_wp2_with fail
          go_region_held3 (fun w' => w'.cell? (ad1.add (k * 2)) = some (.int .i64 lsn) ∧ w'.cell? (ad2.add k) = some (.int .u32 seed) ∧ w'.cell? ⟨(ad1.add (k * 2)).block, (ad1.add (k * 2)).off + 1, none⟩ = some (.slice D d.length cd)) (first | exact ⟨c06, c26, c16⟩ | exact ⟨keep_cell hb7 c06, keep_cell hb7 c26, keep_cell hb7 c16⟩)
            (first | (go_at_call 15; refine (write_any seed hsd lsn g1 g2 d (by omega) D cd w6.drew hD6).mono ?_; rw [HR.out]; rintro e w7 ⟨A7, n7, c7, rfl, ho7, hb7⟩))
          have hD7w : Below w6.heap.size w6 w7 := (drewN_below w6.heap.size w6 1).trans hb7
          have hb37 := thn hb36 hD7w
          have c17 := keep_cell hD7w c16
          have hD7 := hD.keep hb37
          have ho37 := ho36.keep hD7w
          have ho57 := ho56.keep hD7w
          have ho67 := ho6.keep hD7w
          have hn5 := ho57.len
          have hn6 := ho67.len
          have hn7 := ho7.len
          obtain rfl : n6 = n5 := by omega
          obtain rfl : n7 = n6 := by omega
          have e6 : w6.drew.heap.size = w6.heap.size := rfl
          have hs35 : W3.heap.size ≤ w5.heap.size := hD5w.size
          have hs56 : w5.heap.size ≤ w6.heap.size := hD6w.size
          have hs67 : w6.heap.size ≤ w7.heap.size := hD7w.size
          have l3 := ho37.lt
          have l5 := ho57.lt
          have l6 := ho67.lt
          have l7 := ho7.lt
          have l3' := ho36.lt
          clear c06 c16 c26 ho36 ho56 ho6 hD6
          have hnm : n7 ≤ 9223372036854775807 := by omega
          have heq : eqB rb rb = true := by simp [eqB]
          go_wp2_with fail
          refine (eq_any rb rb n7 n7 hn5 hn5 hnm A5 A6 c5 c6 w7 ho57.rd ho67.rd).mono ?_
          rw [heq]
          rintro e w8 ⟨rfl, q8, rfl⟩
          have hd8 := drewN_below w7.heap.size w7 q8
          have c18 := keep_cell hd8 c17
          have hD8 := hD7.keep hd8
          have ho38 := ho37.keep hd8
          have ho58 := ho57.keep hd8
          have ho68 := ho67.keep hd8
          have ho78 := ho7.keep hd8
          have hb38 := thn hb37 hd8
          have hs78 : w7.heap.size ≤ (w7.drewN q8).heap.size := hd8.size
          generalize w7.drewN q8 = w8 at *
          clear c17 ho37 ho57 ho67 ho7 hD7 hd8
          go_wp2_with fail
          refine (back_ok d d.length c3 cd rfl (by omega) A3 D wr.heap.size w8 ho38 hD8 hap).mono ?_
          rintro e w9 ⟨rfl, hg9⟩
          have hw3 : ∀ ad, A3 = some ad → wr.heap.size ≤ ad.block ∧ ad.block < W3.heap.size := fun ad h => l33 ad h
          have h59 := ho58.grown hg9 (fun ad ha e => by
            cases A3 with
            | none => cases e
            | some a3 => simp only [Option.map_some, Option.some.injEq] at e; have := (hw3 a3 rfl).2; have := (l5 ad ha).1; omega)
          have h69 := ho68.grown hg9 (fun ad ha e => by
            cases A3 with
            | none => cases e
            | some a3 => simp only [Option.map_some, Option.some.injEq] at e; have := (hw3 a3 rfl).2; have := (l6 ad ha).1; omega)
          have h79 := ho78.grown hg9 (fun ad ha e => by
            cases A3 with
            | none => cases e
            | some a3 => simp only [Option.map_some, Option.some.injEq] at e; have := (hw3 a3 rfl).2; have := (l7 ad ha).1; omega)
          have hb39 := hb38.trans (below_grown hg9 hb38.size fun ad h => (hw3 ad h).1)
          have hs89 : w8.heap.size ≤ w9.heap.size := hg9.size
          clear ho38 ho58 ho68 ho78 c18 hD8 hg9
          go_wp2_with fail
          refine (eq_any rb rb n7 n7 hn5 hn5 hnm A5 A6 c5 c6 w9 h59.rd h69.rd).mono ?_
          rw [heq]
          rintro e w10 ⟨rfl, q10, rfl⟩
          have hd10 := drewN_below w9.heap.size w9 q10
          have ho510 := h59.keep hd10
          have ho710 := h79.keep hd10
          have hb310 := thn hb39 hd10
          have hs910 : w9.heap.size ≤ (w9.drewN q10).heap.size := hd10.size
          generalize w9.drewN q10 = w10 at *
          clear h59 h69 h79 hd10
          have hba : Below w10.heap.size w10 (w10.alloc (Obj.cells #[.slice A5 n7 c5, .slice A7 n7 c7] 31)) := (Below.refl _ _).alloc (Nat.le_refl _) _
          have hpa : (w10.alloc (Obj.cells #[.slice A5 n7 c5, .slice A7 n7 c7] 31)).heap[w10.heap.size]? = some (Obj.cells #[.slice A5 n7 c5, .slice A7 n7 c7] 31 (0, 0)) := heap_alloc_new _ _
          have hb311 := thn hb310 hba
          have ho511 := ho510.keep hba
          have ho711 := ho710.keep hba
          go_wp2_with fail
          generalize (w10.alloc (Obj.cells #[.slice A5 n7 c5, .slice A7 n7 c7] 31)) = w11 at *
          have hpl := hK.lt
          have hLl := hK.Llt
          have hs3 : wr.heap.size ≤ W3.heap.size := hb3.size
          have hwb : w.heap.size ≤ wr.heap.size := hbr.size
          have hs11 : w10.heap.size ≤ w11.heap.size := hba.size
          have hPLlt : ∀ j, PL p L j → j < wr.heap.size := fun j hj => by
            rcases hj with rfl | ⟨bd, hb, rfl⟩
            · exact hpl
            · exact (hLl bd hb).2
          have hPLge : ∀ j, PL p L j → w.heap.size ≤ j := fun j hj => by
            rcases hj with rfl | ⟨bd, hb, rfl⟩
            · exact hK.low
            · exact (hLl bd hb).1
          have hK11 := hK.keep hb311
          have hx5 : Own w.heap.size w11 A5 n7 c5 rb := ho511.mono (by omega)
          have hx7 : Own w.heap.size w11 A7 n7 c7 rb := ho711.mono (by omega)
          have hlt5 : ∀ ad, A5 = some ad → wr.heap.size ≤ ad.block := fun ad h => by have := (l5 ad h).1; omega
          have hlt7 : ∀ ad, A7 = some ad → wr.heap.size ≤ ad.block := fun ad h => by have := (l7 ad h).1; omega
          have hes : ∀ e ∈ es, ∀ ad, e.A = some ad → ad.block < wr.heap.size := fun e he ad ha => ((hK.each e he).lt ad ha).2
          refine (keep_any w.heap.size p m mc L sz es [⟨A5, n7, c5, rb⟩, ⟨A7, n7, c7, rb⟩] _ 2 2 w11 hK11 hS (by omega) rfl (by omega) (rd_vals2 hpa) (fun ad h hj => by cases h; have := hPLlt _ hj; simp only at this; omega) ?_ ?_ ?_ ?_ ?_).mono ?_
          · intro x hx
            rcases List.mem_cons.1 hx with rfl | hx
            · exact hx5
            · rw [List.mem_singleton.1 hx]; exact hx7
          · intro x hx
            rcases List.mem_cons.1 hx with rfl | hx
            · simp only; omega
            · rw [List.mem_singleton.1 hx]; simp only; omega
          · intro x hx
            rcases List.mem_cons.1 hx with rfl | hx
            · intro ad h hj; have := hPLlt _ hj; have := hlt5 ad h; omega
            · rw [List.mem_singleton.1 hx]; intro ad h hj; have := hPLlt _ hj; have := hlt7 ad h; omega
          · refine List.pairwise_cons.2 ⟨fun x hx => ?_, List.pairwise_singleton _ _⟩
            rw [List.mem_singleton.1 hx]
            intro ad bd h1 h2 he
            have h57 := (l57 ad h1).2
            have h77 := (l7 bd h2).1
            omega
          · intro e he x hx ad bd h1 h2 heb
            have := hes e he ad h1
            rcases List.mem_cons.1 hx with rfl | hx
            · have := hlt5 bd h2; omega
            · rw [List.mem_singleton.1 hx] at h2; have := hlt7 bd h2; omega
          · rintro e w12 ⟨rfl, L', m', mc', sz', es', hK', hS', _, hO', _⟩
            have hb12 := (hbr.trans (hb311.mono hwb)).trans (hO'.below (by omega) hPLge)
            go_wp2_with fail
            exact ⟨⟨k + 1, by omega, by omega, by go_num, hb12, L', m', mc', sz', es', hK', hS'⟩, by simp [intOf]; omega⟩
        · rcases (show ¬ k < n1 ∨ (k < n1 ∧ ¬ k < n2) ∨ (k < n1 ∧ k < n2 ∧ ¬ k < 30) by omega) with h1 | ⟨h1, h2⟩ | ⟨h1, h2, h3⟩
          all_goals
            go_wp2_with fail
            refine Hend.out.mono ?_
            rintro e w9 ⟨rfl, hb9⟩
            go_wp2_with fail
            go_ret
            exact ⟨rfl, hb9⟩
end Go.Proofs.Ytdfabjkffjacoaa
