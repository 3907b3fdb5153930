/- A keeper of lists of bytes, packed: where its rows lie, where the bytes that it keeps lie. -/
import Derived.Test.YtdfabjkffjacoaaApartW
import Derived.Test.YtdfabjkffjacoaaRFind
namespace Go.Proofs.Ytdfabjkffjacoaa
open Go.RowKit

/-- a keeper at p: its own rows satisfy Z and lie below H; the blocks of what it keeps satisfy T -/
def KKP (B p : Nat) (Z : Nat → Prop) (H : Nat) (T : Nat → Prop) (V : World) : Prop :=
  ∃ L m mc sz es, KeptL B V p L m mc sz es ∧ SzOk m sz es ∧ Z p ∧ p < H ∧ (∀ bd, L = some bd → Z bd.block ∧ bd.block < H) ∧ ∀ e ∈ es, ∀ ad, e.A = some ad → T ad.block

section
variable {B p H H' : Nat} {Z Z' T T' R : Nat → Prop} {V V' : World}
theorem KKP.weaken (h : KKP B p Z H T V) (hH : H ≤ H') (hZ : ∀ j, Z j → j < H → Z' j) (hT : ∀ j, T j → j < V.heap.size → T' j) : KKP B p Z' H' T' V := by
  obtain ⟨L, m, mc, sz, es, hK, hS, h1, h2, h3, h4⟩ := h
  exact ⟨L, m, mc, sz, es, hK, hS, hZ _ h1 h2, Nat.lt_of_lt_of_le h2 hH, fun bd hb => ⟨hZ _ (h3 bd hb).1 (h3 bd hb).2, Nat.lt_of_lt_of_le (h3 bd hb).2 hH⟩, fun e he ad ha => hT _ (h4 e he ad ha) ((hK.each e he).lt ad ha).2⟩
theorem KKP.only (h : KKP B p Z H T V) (hO : Only R V V') (h1 : ∀ j, Z j → j < H → ¬ R j) (h2 : ∀ j, T j → j < V.heap.size → ¬ R j) : KKP B p Z H T V' := by
  obtain ⟨L, m, mc, sz, es, hK, hS, k1, k2, k3, k4⟩ := h
  exact ⟨L, m, mc, sz, es, hK.only hO (h1 p k1 k2) (fun bd hb => h1 _ (k3 bd hb).1 (k3 bd hb).2) (fun e he ad ha => h2 _ (k4 e he ad ha) ((hK.each e he).lt ad ha).2), hS, k1, k2, k3, k4⟩
theorem KKP.keep (h : KKP B p Z H T V) (hb : Below V.heap.size V V') : KKP B p Z H T V' :=
  h.only (R := fun _ => False) (Only.of_below hb) (fun _ _ _ f => f) (fun _ _ _ f => f)
/-- a cell of another kind of block is written -/
theorem KKP.set (h : KKP B p Z H T V) {g k : Nat} {v : Value} {cur : Array Value} {t : TypeId} {fr : Nat × Nat} (hg : V.heap[g]? = some (.cells cur t fr)) (h1 : t ≠ 5) (h2 : t ≠ 30) (h3 : t ≠ 31) :
    KKP B p Z H T (V.setCell ⟨g, k, none⟩ v) := by
  obtain ⟨L, m, mc, sz, es, hK, hS, k1, k2, k3, k4⟩ := h
  refine ⟨L, m, mc, sz, es, hK.only (only_set V g k v) (fun e => ?_) (fun bd hb e => ?_) (fun x hx ad ha e => ?_), hS, k1, k2, k3, k4⟩
  · subst e
    rw [hK.blk] at hg
    injection hg with hg
    injection hg with _ hg
    exact h2 hg.symm
  · subst hb
    rcases hK.own.2 with ⟨hv, _⟩ | ⟨g', cap, cur', hv, _, hg', _⟩
    · cases hv
    · injection hv with hv
      injection hv with hv
      rw [hv] at e
      simp only at e
      subst e
      rw [hg'] at hg
      injection hg with hg
      injection hg with _ hg
      exact h3 hg.symm
  · rcases (hK.each x hx).2 with ⟨hv, _⟩ | ⟨g', cap, cur', hv, _, hg', _⟩
    · rw [ha] at hv; cases hv
    · rw [ha] at hv
      injection hv with hv
      injection hv with hv
      rw [hv] at e
      simp only at e
      subst e
      rw [hg'] at hg
      injection hg with hg
      injection hg with _ hg
      exact h1 hg.symm
/-- a keeper that was just made -/
theorem KKP.new {C : Array Value} (hC : C = #[.slice none 0 0, .int .i64 0]) (hp : V.heap[p]? = some (.cells C 30 (0, 0))) (hB : B ≤ p) (hZ : Z p) (hH : p < H) : KKP B p Z H T V := by
  subst hC
  exact ⟨none, 0, 0, 0, [], ⟨hp, World.ownsRow_nil _ _ _ _, rfl, fun e he => (by cases he), fun e he => (by cases he), List.Pairwise.nil, fun bd hb => (by cases hb), hB⟩, ⟨Int.le_refl _, by omega, fun e he => (by cases he)⟩, hZ, hH, fun bd hb => (by cases hb), fun e he => (by cases he)⟩
theorem KKP.lt (h : KKP B p Z H T V) : p < V.heap.size := by
  obtain ⟨L, m, mc, sz, es, hK, _⟩ := h
  exact hK.lt

/-- Keep of one list -/
def Keep1P (B p : Nat) (Z T : Nat → Prop) (A : Option Addr) (W : World) (e : Ending) (w' : World) : Prop :=
  e = .returned (.tuple #[]) ∧ KKP B p Z w'.heap.size (fun j => T j ∨ ∃ ad, A = some ad ∧ j = ad.block) w' ∧ Only Z W w'
theorem keep1_any {W : World} {A : Option Addr} {n c g : Nat} {l : List UInt8} (h : KKP B p Z H T W) (hZ : ∀ j, W.heap.size ≤ j → Z j) (hx : Own B W A n c l) (hn : n ≤ 1000000000000)
    (hxT : ∀ ad, A = some ad → ¬ T ad.block ∧ (¬ Z ad.block ∨ H ≤ ad.block)) (hg : W.cell? ⟨g, 0, none⟩ = some (.slice A n c)) (hgZ : ¬ Z g ∨ H ≤ g) :
    Calls Try.prog 19 #[.pointer (some ⟨p, 0, none⟩), .slice (some ⟨g, 0, none⟩) 1 1] W (Keep1P B p Z T A W) := by
  obtain ⟨L, m, mc, sz, es, hK, hS, k1, k2, k3, k4⟩ := h
  have hPL : ∀ j, (¬ Z j ∨ H ≤ j) → ¬ PL p L j := fun j hj hp => by
    rcases hp with rfl | ⟨bd, hb, rfl⟩
    · rcases hj with hj | hj
      · exact hj k1
      · omega
    · have := k3 bd hb
      rcases hj with hj | hj
      · exact hj this.1
      · omega
  have hB : B ≤ W.heap.size := by have := hK.low; have := hK.lt; omega
  refine (keep_any B p m mc L sz es [⟨A, n, c, l⟩] (some ⟨g, 0, none⟩) 1 1 W hK hS hB rfl (by omega) ?_ ?_ ?_ ?_ ?_ ?_ ?_).mono ?_
  · intro j u hj
    cases j with
    | zero =>
      simp only [List.map_cons, List.getElem?_cons_zero, Option.some.injEq] at hj
      subst hj
      exact ⟨_, rfl, by rw [addr0]; exact hg⟩
    | succ j => simp at hj
  · intro ad ha
    cases ha
    exact hPL g hgZ
  · intro x hm
    rw [List.mem_singleton.1 hm]
    exact hx
  · intro x hm
    rw [List.mem_singleton.1 hm]
    exact hn
  · intro x hm
    rw [List.mem_singleton.1 hm]
    exact fun ad ha => hPL _ (hxT ad ha).2
  · exact List.pairwise_singleton _ _
  · intro e he x hm
    rw [List.mem_singleton.1 hm]
    intro ad bd h1 h2 h3
    exact (hxT bd h2).1 (h3 ▸ k4 e he ad h1)
  · rintro e w' ⟨rfl, L', m', mc', sz', es', hK', hS', hmem, hO, hN⟩
    have hO' : Only Z W w' := ⟨hO.os, hO.tape, hO.output, hO.size, fun j hj hn => hO.block j hj fun hp => by
      rcases hp with rfl | ⟨bd, hb, rfl⟩
      · exact hn k1
      · exact hn (k3 bd hb).1⟩
    refine ⟨rfl, ⟨L', m', mc', sz', es', hK', hS', k1, hK'.lt, fun bd hb => ⟨?_, (hK'.Llt bd hb).2⟩, fun e he ad ha => ?_⟩, hO'⟩
    · rcases hN bd hb with ⟨b0, h0, h1⟩ | h1
      · rw [h1]; exact (k3 b0 h0).1
      · exact hZ _ h1
    · rcases hmem e he with hm | hm
      · exact .inl (k4 e hm ad ha)
      · rw [List.mem_singleton.1 hm] at ha
        exact .inr ⟨ad, ha, rfl⟩
theorem kapart_any (h : KKP B p Z H T V) : Calls Try.prog 20 #[.pointer (some ⟨p, 0, none⟩)] V fun e w' => e = .returned (.bool true) ∧ BelD B V w' := by
  obtain ⟨L, m, mc, sz, es, hK, hS, _⟩ := h
  exact apart_any B p m mc L sz es V hK hS
end
end Go.Proofs.Ytdfabjkffjacoaa
