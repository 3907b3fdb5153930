/- Walk: flumelaw1.Bytes.Apart. -/
import Derived.Test.YtdfabjkffjacoaaKeep
namespace Go.Proofs.Ytdfabjkffjacoaa
open Go.RowKit

theorem rows_open {w : World} {B m mc : Nat} {t : TypeId} {L : Option Addr} {vs : List Value} (h : w.ownsRow B t 1 (.slice L m mc) m vs) (hm : 0 < m) :
    ∃ g, L = some ⟨g, 0, none⟩ ∧ (∀ (j : Nat) u, vs[j]? = some u → w.cell? ⟨g, j, none⟩ = some u) ∧ ∀ j, w.frozen? ⟨g, j, none⟩ = false := by
  have h0 := h
  rcases h.2 with ⟨hv, h0⟩ | ⟨g, cap, cur, hv, _, hg, _⟩
  · omega
  · have hL : L = some ⟨g, 0, none⟩ := by injection hv
    subst hL
    refine ⟨g, rfl, fun j u hj => ?_, fun j => frozen_of_row w g j cur _ hg⟩
    have := World.ownsRow.cells (g := g) h0 rfl j u hj
    rwa [addr0] at this
theorem rows_set {w : World} {B m mc g : Nat} {t : TypeId} {vs : List Value} (h : w.ownsRow B t 1 (.slice (some ⟨g, 0, none⟩) m mc) m vs) (i : Nat) (v : Value) :
    (w.setCell ⟨g, i, none⟩ v).ownsRow B t 1 (.slice (some ⟨g, 0, none⟩) m mc) m (vs.set i v) := by
  obtain ⟨h1, h2⟩ := h
  refine ⟨by rw [List.length_set]; exact h1, ?_⟩
  rcases h2 with ⟨hv, _⟩ | ⟨g', cap, cur, hv, hbg, hg, hc, hm, hs, ht⟩
  · cases hv
  · injection hv with h1' h2' h3'
    cases h1'
    subst h3'
    refine .inr ⟨g, mc, cur.setIfInBounds i v, rfl, hbg, heap_setCell_same w g i cur _ _ hg, hc, hm, by simpa using hs, ?_⟩
    rw [← ht, Array.toList_setIfInBounds, List.take_set]
theorem own_open {w : World} {B n c : Nat} {A : Option Addr} {l : List UInt8} (h : Own B w A n c l) (hn : 0 < n) : ∃ g, A = some ⟨g, 0, none⟩ := by
  obtain ⟨g, hg, _⟩ := rows_open (w := w) (B := B) (t := 5) (vs := bv l) h hn
  exact ⟨g, hg⟩

def Ent.row (e : Ent) : Nat → Prop := fun j => ∃ ad, e.A = some ad ∧ j = ad.block

/-- one entry's row has turned, or is a new one; the list holds it -/
theorem KeptL.turn {B p m mc g : Nat} {w w1 : World} {sz : Int} {es : List Ent} (h : KeptL B w p (some ⟨g, 0, none⟩) m mc sz es) (i : Nat) (hi : i < es.length) (x : Ent)
    (hO : Only es[i].row w w1) (hx : Own B w1 x.A x.n x.c x.l) (hat : ∀ ad, x.A = some ad → es[i].row ad.block ∨ w.heap.size ≤ ad.block) :
    KeptL B (w1.setCell ⟨g, i, none⟩ x.val) p (some ⟨g, 0, none⟩) m mc sz (es.set i x) := by
  have hmi := List.getElem_mem hi
  have hgp : g ≠ p := h.lp ⟨g, 0, none⟩ rfl
  have hpr : ¬ es[i].row p := fun ⟨ad, ha, he⟩ => h.off _ hmi ad ha (.inl he.symm)
  have hgr : ¬ es[i].row g := fun ⟨ad, ha, he⟩ => h.off _ hmi ad ha (.inr ⟨_, rfl, he.symm⟩)
  have hO2 := only_set w1 g i x.val
  have hglt := (h.Llt ⟨g, 0, none⟩ rfl).2
  have hplt := h.lt
  have hne : ∀ j (hj : j < es.length), j ≠ i → ∀ ad, es[j].A = some ad → ¬ es[i].row ad.block := fun j hj hji ad ha ⟨bd, hb, he⟩ => by
    rcases Nat.lt_or_gt_of_ne hji with hlt | hlt
    · exact List.pairwise_iff_getElem.1 h.dis j i hj hi hlt ad bd ha hb he
    · exact List.pairwise_iff_getElem.1 h.dis i j hi hj hlt bd ad hb ha he.symm
  have hxoff : x.off (PL p (some ⟨g, 0, none⟩)) := fun ad ha hr => by
    rcases hat ad ha with ⟨bd, hb, he⟩ | hl
    · exact h.off _ hmi bd hb (by rw [← he]; exact hr)
    · rcases hr with hr | ⟨bd, hb, hr⟩
      · omega
      · cases hb; simp only at hr hglt; omega
  have hxd : ∀ j (hj : j < es.length), j ≠ i → ∀ ad bd, es[j].A = some ad → x.A = some bd → ad.block ≠ bd.block := fun j hj hji ad bd ha hb he => by
    rcases hat bd hb with hr | hl
    · exact hne j hj hji ad ha (he ▸ hr)
    · have := ((h.each _ (List.getElem_mem hj)).lt ad ha).2; omega
  refine ⟨hO2.row (fun h' => hgp h'.symm) (hO.row hpr h.blk), ?_, by simp [h.len], fun e he => ?_, fun e he => ?_, ?_, h.lp, h.low⟩
  · rw [List.map_set]
    exact rows_set (hO.rows (fun ad ha => by cases ha; exact hgr) h.own) i x.val
  · obtain ⟨j, hj, rfl⟩ := List.getElem_of_mem he
    have hj' : j < es.length := by simpa using hj
    rw [List.getElem_set]
    split
    · exact hO2.own (fun ad ha hr => hxoff ad ha (.inr ⟨_, rfl, hr⟩)) hx
    · rename_i hij
      exact hO2.own (fun ad ha hr => h.off _ (List.getElem_mem hj') ad ha (.inr ⟨_, rfl, hr⟩)) (hO.own (hne j hj' (fun e => hij e.symm)) (h.each _ (List.getElem_mem hj')))
  · obtain ⟨j, hj, rfl⟩ := List.getElem_of_mem he
    have hj' : j < es.length := by simpa using hj
    rw [List.getElem_set]
    split
    · exact hxoff
    · exact h.off _ (List.getElem_mem hj')
  · rw [List.pairwise_iff_getElem]
    intro a b ha hb hab
    have ha' : a < es.length := by simpa using ha
    have hb' : b < es.length := by simpa using hb
    rw [List.getElem_set, List.getElem_set]
    by_cases hia : i = a
    · rw [if_pos hia, if_neg (by omega)]
      exact fun ad bd h1 h2 he => hxd b hb' (by omega) bd ad h2 h1 he.symm
    · rw [if_neg hia]
      by_cases hib : i = b
      · rw [if_pos hib]
        exact fun ad bd h1 h2 he => hxd a ha' (by omega) ad bd h1 h2 he
      · rw [if_neg hib]
        exact List.pairwise_iff_getElem.1 h.dis a b ha' hb' hab
/-- one entry's bytes have turned -/
theorem KeptL.fill {B p m mc g : Nat} {w w1 : World} {sz : Int} {es : List Ent} (h : KeptL B w p (some ⟨g, 0, none⟩) m mc sz es) (i : Nat) (hi : i < es.length) (l : List UInt8)
    (hO : Only es[i].row w w1) (hx : Own B w1 es[i].A es[i].n es[i].c l) : KeptL B w1 p (some ⟨g, 0, none⟩) m mc sz (es.set i { es[i] with l := l }) := by
  have hmi := List.getElem_mem hi
  have hpr : ¬ es[i].row p := fun ⟨ad, ha, he⟩ => h.off _ hmi ad ha (.inl he.symm)
  have hgr : ¬ es[i].row g := fun ⟨ad, ha, he⟩ => h.off _ hmi ad ha (.inr ⟨_, rfl, he.symm⟩)
  have hne : ∀ j (hj : j < es.length), j ≠ i → ∀ ad, es[j].A = some ad → ¬ es[i].row ad.block := fun j hj hji ad ha ⟨bd, hb, he⟩ => by
    rcases Nat.lt_or_gt_of_ne hji with hlt | hlt
    · exact List.pairwise_iff_getElem.1 h.dis j i hj hi hlt ad bd ha hb he
    · exact List.pairwise_iff_getElem.1 h.dis i j hi hj hlt bd ad hb ha he.symm
  have hA : ∀ j (hj : j < (es.set i { es[i] with l := l }).length), (es.set i { es[i] with l := l })[j].A = (es[j]'(by simpa using hj)).A ∧ (es.set i { es[i] with l := l })[j].n = (es[j]'(by simpa using hj)).n ∧ (es.set i { es[i] with l := l })[j].c = (es[j]'(by simpa using hj)).c := fun j hj => by
    rw [List.getElem_set]
    split
    · rename_i h'; subst h'; exact ⟨rfl, rfl, rfl⟩
    · exact ⟨rfl, rfl, rfl⟩
  refine ⟨hO.row hpr h.blk, ?_, by simp [h.len], fun e he => ?_, fun e he ad ha => ?_, ?_, h.lp, h.low⟩
  · have e : (es.set i { es[i] with l := l }).map Ent.val = es.map Ent.val := by
      apply List.ext_getElem (by simp)
      intro j h1 h2
      rw [List.getElem_map, List.getElem_map]
      obtain ⟨a1, a2, a3⟩ := hA j (by simpa using h1)
      simp only [Ent.val, a1, a2, a3]
    rw [e]
    exact hO.rows (fun ad ha => by cases ha; exact hgr) h.own
  · obtain ⟨j, hj, rfl⟩ := List.getElem_of_mem he
    have hj' : j < es.length := by simpa using hj
    rw [List.getElem_set]
    split
    · exact hx
    · rename_i hij
      exact hO.own (hne j hj' (fun e => hij e.symm)) (h.each _ (List.getElem_mem hj'))
  · obtain ⟨j, hj, rfl⟩ := List.getElem_of_mem he
    rw [(hA j hj).1] at ha
    exact h.off _ (List.getElem_mem (by simpa using hj)) ad ha
  · rw [List.pairwise_iff_getElem]
    intro a b ha hb hab ad bd h1 h2
    rw [(hA a ha).1] at h1
    rw [(hA b hb).1] at h2
    exact List.pairwise_iff_getElem.1 h.dis a b (by simpa using ha) (by simpa using hb) hab ad bd h1 h2
end Go.Proofs.Ytdfabjkffjacoaa
