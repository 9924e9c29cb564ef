/- How the plain machine's values and heap stand to the loaded program's values and world, and what keeps that standing. -/
import Derived.Test.YtochmoadmdmcbaaGreatDoorAm1
import Derived.WalkKit
import Derived.Deep.AppendSrc
namespace Go.Am
set_option linter.unusedSimpArgs false
set_option linter.unusedVariables false
open Go Go.RowKit

/-- Where a block lies: block, first cell, the size of an element, how many cells there are from the first on. -/
structure Pl where
  blk : Nat
  sh : Nat
  z : Nat
  e : Nat

mutual
def VR (ρ : Nat → Pl) (nx : Nat) : V → Value → Prop
  | .int k n, u => u = .int k n
  | .bool b, u => u = .bool b
  | .str s, u => u = .string ⟨s.toArray⟩
  | .ptr b o, u => b < nx ∧ u = .pointer (some ⟨(ρ b).blk, (ρ b).sh + o, none⟩)
  | .nptr, u => u = .pointer none
  | .sl b o n c, u => b < nx ∧ ∃ c', u = .slice (some ⟨(ρ b).blk, (ρ b).sh + o, none⟩) n c' ∧ n ≤ c' ∧ (c = 0 ∨ c = c' + 1) ∧ o + c' * (ρ b).z ≤ (ρ b).e
  | .nsl, u => u = .slice none 0 0
  | .esl, u => ∃ a c', u = .slice (some a) 0 c'
  | .mp b, u => b < nx ∧ u = .map (some (ρ b).blk)
  | .nmp, u => u = .map none
  | .fn f xs ys, u => ∃ xs' ys', u = .func f xs' ys' ∧ VRs ρ nx xs xs'.toList ∧ VRs ρ nx ys ys'.toList
  | .nfn, u => u = .nilFunc
  | .ifc t v, u => ∃ v', u = .iface t v' ∧ VR ρ nx v v'
  | .nifc, u => u = .nilIface
  | .agg l, u => ∃ l', u = .agg l' ∧ VRs ρ nx l l'.toList
  | .tup l, u => ∃ l', u = .tuple l' ∧ VRs ρ nx l l'.toList
def VRs (ρ : Nat → Pl) (nx : Nat) : List V → List Value → Prop
  | [], us => us = []
  | v :: vs, us => ∃ u us', us = u :: us' ∧ VR ρ nx v u ∧ VRs ρ nx vs us'
end

mutual
theorem VR.mono {ρ ρ' : Nat → Pl} {nx nx' : Nat} (hρ : ∀ b, b < nx → ρ' b = ρ b) (hn : nx ≤ nx') : ∀ (v : V) {u : Value}, VR ρ nx v u → VR ρ' nx' v u
  | .int _ _, _, h => by simpa only [VR] using h
  | .bool _, _, h => by simpa only [VR] using h
  | .str _, _, h => by simpa only [VR] using h
  | .ptr b o, _, h => by
    simp only [VR] at h ⊢
    exact ⟨Nat.lt_of_lt_of_le h.1 hn, by rw [hρ b h.1]; exact h.2⟩
  | .nptr, _, h => by simpa only [VR] using h
  | .sl b o n c, _, h => by
    simp only [VR] at h ⊢
    exact ⟨Nat.lt_of_lt_of_le h.1 hn, by rw [hρ b h.1]; exact h.2⟩
  | .nsl, _, h => by simpa only [VR] using h
  | .esl, _, h => by simpa only [VR] using h
  | .mp b, _, h => by
    simp only [VR] at h ⊢
    exact ⟨Nat.lt_of_lt_of_le h.1 hn, by rw [hρ b h.1]; exact h.2⟩
  | .nmp, _, h => by simpa only [VR] using h
  | .fn _ xs ys, _, h => by
    simp only [VR] at h ⊢
    obtain ⟨xs', ys', e, hx, hy⟩ := h
    exact ⟨xs', ys', e, VRs.mono hρ hn xs hx, VRs.mono hρ hn ys hy⟩
  | .nfn, _, h => by simpa only [VR] using h
  | .ifc _ v, _, h => by
    simp only [VR] at h ⊢
    obtain ⟨v', e, hv⟩ := h
    exact ⟨v', e, VR.mono hρ hn v hv⟩
  | .nifc, _, h => by simpa only [VR] using h
  | .agg l, _, h => by
    simp only [VR] at h ⊢
    obtain ⟨l', e, hl⟩ := h
    exact ⟨l', e, VRs.mono hρ hn l hl⟩
  | .tup l, _, h => by
    simp only [VR] at h ⊢
    obtain ⟨l', e, hl⟩ := h
    exact ⟨l', e, VRs.mono hρ hn l hl⟩
theorem VRs.mono {ρ ρ' : Nat → Pl} {nx nx' : Nat} (hρ : ∀ b, b < nx → ρ' b = ρ b) (hn : nx ≤ nx') : ∀ (v : List V) {u : List Value}, VRs ρ nx v u → VRs ρ' nx' v u
  | [], _, h => by simpa only [VRs] using h
  | v :: vs, _, h => by
    simp only [VRs] at h ⊢
    obtain ⟨u, us, e, h1, h2⟩ := h
    exact ⟨u, us, e, VR.mono hρ hn v h1, VRs.mono hρ hn vs h2⟩
end

section lists
variable {ρ : Nat → Pl} {nx : Nat}

theorem VRs.nil : VRs ρ nx [] [] := by simp only [VRs]
theorem VRs.cons {v : V} {u : Value} {vs : List V} {us : List Value} (h : VR ρ nx v u) (hs : VRs ρ nx vs us) : VRs ρ nx (v :: vs) (u :: us) := by
  simp only [VRs]; exact ⟨u, us, rfl, h, hs⟩
theorem VRs.inv {v : V} {vs : List V} {us : List Value} (h : VRs ρ nx (v :: vs) us) : ∃ u us', us = u :: us' ∧ VR ρ nx v u ∧ VRs ρ nx vs us' := by
  simpa only [VRs] using h
theorem VRs.inv_nil {us : List Value} (h : VRs ρ nx [] us) : us = [] := by simpa only [VRs] using h
theorem VRs.length : ∀ {vs : List V} {us : List Value}, VRs ρ nx vs us → us.length = vs.length
  | [], _, h => by rw [h.inv_nil]; rfl
  | _ :: _, _, h => by
    obtain ⟨u, us', rfl, _, h2⟩ := h.inv
    simp [VRs.length h2]
theorem VRs.app : ∀ {xs : List V} {us : List Value} {ys : List V} {ws : List Value}, VRs ρ nx xs us → VRs ρ nx ys ws → VRs ρ nx (xs ++ ys) (us ++ ws)
  | [], _, _, _, h, k => by rw [h.inv_nil]; exact k
  | _ :: _, _, _, _, h, k => by
    obtain ⟨u, us', rfl, h1, h2⟩ := h.inv
    exact VRs.cons h1 (VRs.app h2 k)
theorem VRs.get : ∀ {vs : List V} {us : List Value}, VRs ρ nx vs us → ∀ (i : Nat) (v : V), vs[i]? = some v → ∃ u, us[i]? = some u ∧ VR ρ nx v u
  | [], _, _, i, v, hv => by simp at hv
  | _ :: _, _, h, i, v, hv => by
    obtain ⟨u, us', rfl, h1, h2⟩ := h.inv
    cases i with
    | zero => simp at hv; subst hv; exact ⟨u, by simp, h1⟩
    | succ i => simp at hv; simpa using VRs.get h2 i v hv
/-- What is known of each place is known of the list. -/
theorem VRs.of_get : ∀ (vs : List V) (us : List Value), us.length = vs.length → (∀ (i : Nat) (v : V), vs[i]? = some v → ∃ u, us[i]? = some u ∧ VR ρ nx v u) → VRs ρ nx vs us
  | [], us, hl, _ => by
    have : us = [] := List.eq_nil_of_length_eq_zero hl
    subst this; exact VRs.nil
  | v :: vs, [], hl, _ => by simp at hl
  | v :: vs, u :: us, hl, h => by
    obtain ⟨u', hu, h1⟩ := h 0 v (by simp)
    simp at hu; subst hu
    exact VRs.cons h1 (VRs.of_get vs us (by simpa using hl) fun i w hw => by simpa using h (i + 1) w (by simpa using hw))
theorem VRs.take {vs : List V} {us : List Value} (h : VRs ρ nx vs us) (n : Nat) : VRs ρ nx (vs.take n) (us.take n) :=
  VRs.of_get _ _ (by simp [h.length]) fun i v hv => by
    rw [List.getElem?_take] at hv ⊢
    split at hv
    · rename_i hi; rw [if_pos hi]; exact h.get i v hv
    · cases hv
theorem VRs.dropL {vs : List V} {us : List Value} (h : VRs ρ nx vs us) (n : Nat) : VRs ρ nx (vs.drop n) (us.drop n) :=
  VRs.of_get _ _ (by simp [h.length]) fun i v hv => by
    rw [List.getElem?_drop] at hv ⊢
    exact h.get _ v hv
/-- A value of one cell is one cell there, too. -/
theorem VR.one {v : V} {u : Value} (h : VR ρ nx v u) (h1 : v.one = true) : u.oneCell' = true := by
  cases v <;> simp only [VR, V.one] at h h1 <;> first
    | (cases h1; done)
    | (subst h; rfl)
    | (obtain ⟨_, rfl⟩ := h; rfl)
    | (obtain ⟨_, _, rfl, _⟩ := h; rfl)
    | (obtain ⟨_, _, rfl⟩ := h; rfl)
    | (obtain ⟨_, rfl, _⟩ := h; rfl)
theorem VRs.ones : ∀ {vs : List V} {us : List Value}, VRs ρ nx vs us → vs.all V.one = true → ∀ u ∈ us, u.oneCell' = true
  | [], _, h, _, u, hu => by rw [h.inv_nil] at hu; cases hu
  | v :: vs, _, h, ha, u, hu => by
    obtain ⟨u', us', rfl, h1, h2⟩ := h.inv
    simp at ha
    rcases List.mem_cons.1 hu with rfl | hm
    · exact h1.one ha.1
    · exact VRs.ones h2 (by simpa using ha.2) u hm
/-- The cells of a value. -/
theorem VR.cells {v : V} {u : Value} (h : VR ρ nx v u) : VRs ρ nx v.cells u.cells.toList := by
  cases v <;> first
    | (simp only [VR] at h; obtain ⟨l', rfl, hl⟩ := h; exact hl)
    | (have h0 := h
       simp only [VR] at h
       first
        | (subst h; exact VRs.cons h0 VRs.nil)
        | (obtain ⟨_, rfl⟩ := h; exact VRs.cons h0 VRs.nil)
        | (obtain ⟨_, _, rfl, _⟩ := h; exact VRs.cons h0 VRs.nil)
        | (obtain ⟨_, _, rfl⟩ := h; exact VRs.cons h0 VRs.nil)
        | (obtain ⟨_, rfl, _⟩ := h; exact VRs.cons h0 VRs.nil))
end lists

/-! ### the heap's own laws -/

theorem beq_ne {a b : Nat} (h : a ≠ b) : Nat.beq a b = false := by
  cases e : Nat.beq a b with
  | false => rfl
  | true => exact absurd (Nat.eq_of_beq_eq_true e) h

theorem look_put_same {b : Nat} {y : Blk} : ∀ {l : List (Nat × Blk)} {x : Blk}, look b l = some x → look b (put b y l) = some y
  | [], _, h => by simp [look] at h
  | (c, z) :: r, x, h => by
    simp only [look, put] at h ⊢
    by_cases e : c = b
    · subst e; simp [look]
    · have e' : Nat.beq c b = false := beq_ne e
      simp only [e', cond_false, look] at h ⊢
      exact look_put_same h
theorem look_put_ne {b c : Nat} {y : Blk} (hne : b ≠ c) : ∀ (l : List (Nat × Blk)), look c (put b y l) = look c l
  | [] => rfl
  | (d, z) :: r => by
    simp only [put]
    by_cases e : d = b
    · subst e
      have e1 : Nat.beq d d = true := by simp
      have e2 : Nat.beq d c = false := beq_ne hne
      simp [look, e2]
    · have e1 : Nat.beq d b = false := beq_ne e
      simp only [e1, cond_false, look, look_put_ne hne r]
theorem look_drop_same {b : Nat} : ∀ (l : List (Nat × Blk)), look b (drop b l) = none
  | [] => rfl
  | (d, z) :: r => by
    simp only [drop]
    by_cases e : d = b
    · subst e
      have e1 : Nat.beq d d = true := by simp
      simp [look_drop_same r]
    · have e1 : Nat.beq d b = false := beq_ne e
      simp only [e1, cond_false, look, look_drop_same r]
theorem look_drop_ne {b c : Nat} (hne : b ≠ c) : ∀ (l : List (Nat × Blk)), look c (drop b l) = look c l
  | [] => rfl
  | (d, z) :: r => by
    simp only [drop]
    by_cases e : d = b
    · subst e
      have e2 : Nat.beq d c = false := beq_ne hne
      simp [look, e2, look_drop_ne hne r]
    · have e1 : Nat.beq d b = false := beq_ne e
      simp only [e1, cond_false, look, look_drop_ne hne r]

theorem Hp.get_set_same {h : Hp} {b : Nat} {x y : Blk} (hg : h.get b = some x) : (h.set b y).get b = some y := look_put_same hg
theorem Hp.get_set_ne {h : Hp} {b c : Nat} {y : Blk} (hne : b ≠ c) : (h.set b y).get c = h.get c := look_put_ne hne _
theorem Hp.get_del_same {h : Hp} {b : Nat} : (h.del b).get b = none := look_drop_same _
theorem Hp.get_del_ne {h : Hp} {b c : Nat} (hne : b ≠ c) : (h.del b).get c = h.get c := look_drop_ne hne _
theorem Hp.get_new_same {h : Hp} {x : Blk} : (h.new x).get h.nx = some x := by simp [Hp.get, Hp.new, look]
theorem Hp.get_new_ne {h : Hp} {x : Blk} {c : Nat} (hne : h.nx ≠ c) : (h.new x).get c = h.get c := by
  have e : Nat.beq h.nx c = false := beq_ne hne
  simp [Hp.get, Hp.new, look, e]
@[simp] theorem Hp.nx_set {h : Hp} {b : Nat} {x : Blk} : (h.set b x).nx = h.nx := rfl
@[simp] theorem Hp.nx_del {h : Hp} {b : Nat} : (h.del b).nx = h.nx := rfl
@[simp] theorem Hp.nx_new {h : Hp} {x : Blk} : (h.new x).nx = h.nx + 1 := rfl

/-! ### the relation -/

def ERs (ρ : Nat → Pl) (nx : Nat) : List (V × V) → List MapEntry → Prop
  | [], es => es = []
  | (k, v) :: r, es => ∃ e es', es = e :: es' ∧ VR ρ nx k e.key ∧ VR ρ nx v e.val ∧ ERs ρ nx r es'

/-- A row of cells that nothing has frozen, but for places behind its end. -/
def OwnRow (w : World) (b : Nat) : Prop := ∃ arr el lo hi, w.heap[b]? = some (.cells arr el (lo, hi)) ∧ (lo = hi ∨ (arr.size ≤ lo ∧ lo ≤ hi))

theorem OwnRow.unfrozen {w : World} {b : Nat} (h : OwnRow w b) (i : Nat) (hi : (w.cell? ⟨b, i, none⟩).isSome = true) : w.frozen? ⟨b, i, none⟩ = false := by
  obtain ⟨arr, el, lo, hi', hg, hc⟩ := h
  rw [cell_of_row w b i arr el _ hg] at hi
  have hlt : i < arr.size := by
    rcases Nat.lt_or_ge i arr.size with h' | h'
    · exact h'
    · rw [Array.getElem?_eq_none h'] at hi; cases hi
  simp only [World.frozen?, hg]
  rcases hc with rfl | ⟨h1, h2⟩
  · simp <;> omega
  · simp <;> omega

def BR (ρ : Nat → Pl) (nx : Nat) (w : World) (own : Prop) (p : Pl) : Blk → Prop
  | .cells z l => p.z = z ∧ l.length ≤ p.e ∧ (∀ i, i < p.e → (w.cell? ⟨p.blk, p.sh + i, none⟩).isSome = true) ∧
      (own → OwnRow w p.blk) ∧
      (∀ i v, l[i]? = some v → ∃ u, w.cell? ⟨p.blk, p.sh + i, none⟩ = some u ∧ VR ρ nx v u)
  | .map l => ∃ es clock, w.heap[p.blk]? = some (.map es clock) ∧ ERs ρ nx l es.toList

/-- Whether draws are counted. -/
class Dr where
  on : Bool
  gs : Nat
  glob : Nat → Option Obj
instance (priority := low) drOff : Dr := ⟨false, 0, fun _ => none⟩
@[reducible] def drOn : Dr := ⟨true, 0, fun _ => none⟩
/-- The first blocks are those of a given memory. -/
@[reducible] def drAt (G : Nat) (w : World) : Dr := ⟨false, G, fun g => w.heap[g]?⟩

/-- What is below B is as it was; where draws are counted: there are no fewer. -/
structure Bel [Dr] (B : Nat) (w w' : World) : Prop where
  os : w'.os = w.os
  tape : w'.tape = w.tape
  output : w'.output = w.output
  size : w.heap.size ≤ w'.heap.size
  block : ∀ k, k < B → w'.heap[k]? = w.heap[k]?
  dr : Dr.on = true → w.drawn ≤ w'.drawn

theorem Bel.below [Dr] {B : Nat} {w w' : World} (h : Bel B w w') : Below B w w' := ⟨h.os, h.tape, h.output, h.size, h.block⟩
theorem Bel.of [Dr] {B : Nat} {w w' : World} (h : Below B w w') (hd : Dr.on = true → w.drawn ≤ w'.drawn) : Bel B w w' := ⟨h.os, h.tape, h.output, h.size, h.block, hd⟩
theorem Bel.off {B : Nat} {w w' : World} (h : Below B w w') : Bel B w w' := .of h fun h => by cases h
theorem Bel.refl [Dr] (B : Nat) (w : World) : Bel B w w := .of (.refl _ _) fun _ => Nat.le_refl _
theorem Bel.trans [Dr] {B : Nat} {a b c : World} (h : Bel B a b) (k : Bel B b c) : Bel B a c := .of (h.below.trans k.below) fun q => Nat.le_trans (h.dr q) (k.dr q)
theorem Bel.mono [Dr] {B B' : Nat} {w w' : World} (h : Bel B w w') (hB : B' ≤ B) : Bel B' w w' := .of (h.below.mono hB) h.dr
theorem Bel.drew [Dr] {B : Nat} {a w : World} (h : Bel B a w) : Bel B a w.drew := .of h.below.drew fun q => Nat.le_trans (h.dr q) (Nat.le_succ _)
theorem Bel.alloc [Dr] {B : Nat} {a w : World} (h : Bel B a w) (hB : B ≤ w.heap.size) (o : Obj) : Bel B a (w.alloc o) := .of (h.below.alloc hB o) h.dr
theorem Bel.setCell [Dr] {B : Nat} {a w : World} (h : Bel B a w) {p : Addr} (hp : B ≤ p.block) (u : Value) : Bel B a (w.setCell p u) := .of (h.below.setCell hp u) h.dr

/-- The package's variables are what they are said to be. -/
def GlOk [Dr] (B : Nat) (w : World) : Prop := Dr.gs ≤ B ∧ ∀ g, g < Dr.gs → w.heap[g]? = Dr.glob g
theorem GlOk.step [Dr] {B : Nat} {w0 w w' : World} (h : GlOk B w) (h1 : Bel B w0 w) (h2 : Bel B w0 w') : GlOk B w' :=
  ⟨h.1, fun g hg => ((h2.block g (Nat.lt_of_lt_of_le hg h.1)).trans (h1.block g (Nat.lt_of_lt_of_le hg h.1)).symm).trans (h.2 g hg)⟩
theorem GlOk.zero {B : Nat} {w : World} : GlOk B w := ⟨Nat.zero_le _, fun g hg => absurd hg (Nat.not_lt_zero _)⟩

structure Rel [Dr] (B : Nat) (w0 : World) (ro : Nat) (ρ : Nat → Pl) (h : Hp) (w : World) : Prop where
  bel : Bel B w0 w
  hB : B ≤ w.heap.size
  hro : ro ≤ h.nx
  lt : ∀ b x, h.get b = some x → b < h.nx
  pos : ∀ b x, h.get b = some x → (ρ b).blk < w.heap.size ∧ (b < ro → (ρ b).blk < B) ∧ (ro ≤ b → B ≤ (ρ b).blk)
  blk : ∀ b x, h.get b = some x → BR ρ h.nx w (ro ≤ b) (ρ b) x
  inj : ∀ b c x y, h.get b = some x → h.get c = some y → ro ≤ b → ro ≤ c → b ≠ c → (ρ b).blk ≠ (ρ c).blk
  ok : GlOk B w

theorem ERs.mono {ρ ρ' : Nat → Pl} {nx nx' : Nat} (hρ : ∀ b, b < nx → ρ' b = ρ b) (hn : nx ≤ nx') : ∀ {l : List (V × V)} {es : List MapEntry}, ERs ρ nx l es → ERs ρ' nx' l es
  | [], _, h => h
  | (k, v) :: r, _, h => by
    obtain ⟨e, es', rfl, hk, hv, hr⟩ := h
    exact ⟨e, es', rfl, VR.mono hρ hn k hk, VR.mono hρ hn v hv, ERs.mono hρ hn hr⟩

theorem BR.mono {ρ ρ' : Nat → Pl} {nx nx' : Nat} {w w' : World} {own : Prop} {p : Pl} {x : Blk} (hρ : ∀ b, b < nx → ρ' b = ρ b) (hn : nx ≤ nx')
    (hw : w'.heap[p.blk]? = w.heap[p.blk]?) (h : BR ρ nx w own p x) : BR ρ' nx' w' own p x := by
  have hc : ∀ i, w'.cell? ⟨p.blk, i, none⟩ = w.cell? ⟨p.blk, i, none⟩ := fun i => World.cell?_of_block (a := ⟨p.blk, i, none⟩) hw
  cases x with
  | cells z l =>
    obtain ⟨h0, h1, h2, h3, h4⟩ := h
    refine ⟨h0, h1, fun i hi => by rw [hc]; exact h2 i hi, fun ho => by unfold OwnRow; rw [hw]; exact h3 ho, fun i v hv => ?_⟩
    obtain ⟨u, hu, hr⟩ := h4 i v hv
    exact ⟨u, by rw [hc]; exact hu, VR.mono hρ hn v hr⟩
  | map l =>
    obtain ⟨es, clock, h1, h2⟩ := h
    exact ⟨es, clock, by rw [hw]; exact h1, ERs.mono hρ hn h2⟩

end Go.Am
/- What the heap's steps keep of the relation: a new block, a store, a block let go, an append in place. -/
namespace Go.Am
open Go Go.RowKit
variable [Dr]

def upd (ρ : Nat → Pl) (n : Nat) (p : Pl) : Nat → Pl := fun b => if b = n then p else ρ b
omit [Dr] in
theorem upd_same {ρ : Nat → Pl} {n : Nat} {p : Pl} : upd ρ n p n = p := by simp [upd]
omit [Dr] in
theorem upd_lt {ρ : Nat → Pl} {n : Nat} {p : Pl} : ∀ b, b < n → upd ρ n p b = ρ b := fun b hb => by simp [upd, Nat.ne_of_lt hb]
omit [Dr] in
theorem upd_ne {ρ : Nat → Pl} {n : Nat} {p : Pl} {b : Nat} (h : b ≠ n) : upd ρ n p b = ρ b := by simp [upd, h]

section
variable {B : Nat} {w0 w w' : World} {ro : Nat} {ρ : Nat → Pl} {h : Hp}

/-- The world moves on, all blocks that were there stay as they were. -/
theorem Rel.same (hr : Rel B w0 ro ρ h w) (hb : Bel w.heap.size w w') : Rel B w0 ro ρ h w' where
  bel := hr.bel.trans (hb.mono hr.hB)
  hB := Nat.le_trans hr.hB hb.size
  hro := hr.hro
  lt := hr.lt
  pos := fun b x hg => ⟨Nat.lt_of_lt_of_le (hr.pos b x hg).1 hb.size, (hr.pos b x hg).2⟩
  blk := fun b x hg => (hr.blk b x hg).mono (fun _ _ => rfl) (Nat.le_refl _) (hb.block _ (hr.pos b x hg).1)
  inj := hr.inj
  ok := hr.ok.step hr.bel (hr.bel.trans (hb.mono hr.hB))

theorem Rel.drew (hr : Rel B w0 ro ρ h w) : Rel B w0 ro ρ h w.drew := hr.same (Bel.refl _ _).drew

/-- A new block. -/
theorem Rel.newAt (hr : Rel B w0 ro ρ h w) (hb : Bel w.heap.size w w') (p : Pl) (hp : w.heap.size ≤ p.blk) (hp' : p.blk < w'.heap.size) (x : Blk)
    (hx : BR ρ h.nx w' True p x) : Rel B w0 ro (upd ρ h.nx p) (h.new x) w' where
  bel := hr.bel.trans (hb.mono hr.hB)
  hB := Nat.le_trans hr.hB hb.size
  hro := Nat.le_succ_of_le hr.hro
  lt := fun b y hg => by
    by_cases e : h.nx = b
    · subst e; exact Nat.lt_succ_self _
    · rw [Hp.get_new_ne e] at hg; exact Nat.lt_succ_of_lt (hr.lt b y hg)
  pos := fun b y hg => by
    by_cases e : h.nx = b
    · subst e
      rw [upd_same]
      exact ⟨hp', fun hlt => absurd hlt (Nat.not_lt.2 hr.hro), fun _ => Nat.le_trans hr.hB hp⟩
    · rw [Hp.get_new_ne e] at hg
      rw [upd_ne (fun q => e q.symm)]
      exact ⟨Nat.lt_of_lt_of_le (hr.pos b y hg).1 hb.size, (hr.pos b y hg).2⟩
  blk := fun b y hg => by
    by_cases e : h.nx = b
    · subst e
      rw [Hp.get_new_same] at hg
      cases hg
      rw [upd_same]
      have := hx.mono (ρ' := upd ρ h.nx p) (nx' := h.nx + 1) upd_lt (Nat.le_succ _) rfl
      cases x with
      | cells z l => exact ⟨this.1, this.2.1, this.2.2.1, fun _ => this.2.2.2.1 trivial, this.2.2.2.2⟩
      | map l => exact this
    · rw [Hp.get_new_ne e] at hg
      rw [upd_ne (fun q => e q.symm)]
      exact (hr.blk b y hg).mono upd_lt (Nat.le_succ _) (hb.block _ (hr.pos b y hg).1)
  inj := fun b c x1 y1 hb1 hc1 hrb hrc hne => by
    by_cases eb : h.nx = b
    · by_cases ec : h.nx = c
      · exact absurd (eb.symm.trans ec) hne
      · subst eb
        rw [Hp.get_new_ne ec] at hc1
        rw [upd_same, upd_ne (fun q => ec q.symm)]
        have := (hr.pos c y1 hc1).1
        omega
    · rw [Hp.get_new_ne eb] at hb1
      by_cases ec : h.nx = c
      · subst ec
        rw [upd_same, upd_ne (fun q => eb q.symm)]
        have := (hr.pos b x1 hb1).1
        omega
      · rw [Hp.get_new_ne ec] at hc1
        rw [upd_ne (fun q => eb q.symm), upd_ne (fun q => ec q.symm)]
        exact hr.inj b c x1 y1 hb1 hc1 hrb hrc hne
  ok := hr.ok.step hr.bel (hr.bel.trans (hb.mono hr.hB))

theorem Rel.del (hr : Rel B w0 ro ρ h w) (b : Nat) : Rel B w0 ro ρ (h.del b) w := by
  have key : ∀ {c : Nat} {x : Blk}, (h.del b).get c = some x → h.get c = some x := fun {c x} hg => by
    by_cases e : b = c
    · subst e; rw [Hp.get_del_same] at hg; cases hg
    · rwa [Hp.get_del_ne e] at hg
  exact ⟨hr.bel, hr.hB, hr.hro, fun c x hg => hr.lt c x (key hg), fun c x hg => hr.pos c x (key hg), fun c x hg => hr.blk c x (key hg),
    fun c d x y hc hd h1 h2 hne => hr.inj c d x y (key hc) (key hd) h1 h2 hne, hr.ok⟩

omit [Dr] in
theorem setCells_heap_ne (b : Nat) : ∀ (vs : List Value) (o : Nat) (w : World) (k : Nat), k ≠ b → (w.setCells b o vs).heap[k]? = w.heap[k]?
  | [], _, _, _, _ => rfl
  | v :: vs, o, w, k, hk => by
    rw [World.setCells, setCells_heap_ne b vs (o + 1) _ k hk]
    exact Below.heap_setCell w ⟨b, o, none⟩ v k hk
omit [Dr] in
theorem setCells_size (b : Nat) : ∀ (vs : List Value) (o : Nat) (w : World), (w.setCells b o vs).heap.size = w.heap.size
  | [], _, _ => rfl
  | v :: vs, o, w => by rw [World.setCells, setCells_size b vs]; simp
theorem setCells_below (b : Nat) : ∀ (vs : List Value) (o : Nat) (w : World), Bel b w (w.setCells b o vs)
  | [], _, _ => Bel.refl _ _
  | v :: vs, o, w => by
    rw [World.setCells]
    exact ((Bel.refl b w).setCell (p := ⟨b, o, none⟩) (Nat.le_refl _) v).trans (setCells_below b vs (o + 1) _)
omit [Dr] in
/-- What a cell of the block reads behind the stores. -/
theorem setCells_cell (b : Nat) (vs : List Value) (o : Nat) (w : World) (hs : ∀ j, j < vs.length → (w.cell? ⟨b, o + j, none⟩).isSome = true) (i : Nat) :
    (w.setCells b o vs).cell? ⟨b, i, none⟩ = if o ≤ i ∧ i < o + vs.length then vs[i - o]? else w.cell? ⟨b, i, none⟩ := by
  by_cases hi : o ≤ i ∧ i < o + vs.length
  · rw [if_pos hi]
    have hj : i - o < vs.length := by omega
    have := World.cell?_setCells_in b vs o w hs (i - o) hj
    rw [show o + (i - o) = i by omega] at this
    rw [this, List.getElem?_eq_getElem hj]
  · rw [if_neg hi]
    exact World.cell?_setCells_out b vs o w ⟨b, i, none⟩ (fun _ _ => by simp only; omega)

omit [Dr] in
theorem setCells_row (b : Nat) : ∀ (vs : List Value) (o : Nat) (w : World), OwnRow w b → OwnRow (w.setCells b o vs) b
  | [], _, _, h => h
  | v :: vs, o, w, h => by
    rw [World.setCells]
    refine setCells_row b vs (o + 1) _ ?_
    obtain ⟨arr, el, lo, hi, hg, hc⟩ := h
    exact ⟨arr.setIfInBounds o v, el, lo, hi, by simp [World.setCell, Array.getElem?_modify, hg], by simpa using hc⟩

/-- A store into a block of the call's own. -/
theorem Rel.store (hr : Rel B w0 ro ρ h w) {b z : Nat} {l : List V} (hg : h.get b = some (.cells z l)) (hro : ro ≤ b) {o : Nat} {vs : List V} {us : List Value}
    (hl : o + vs.length ≤ l.length) (hv : VRs ρ h.nx vs us) :
    Rel B w0 ro ρ (h.set b (.cells z (l.take o ++ (vs ++ l.drop (o + vs.length))))) (w.setCells (ρ b).blk ((ρ b).sh + o) us) := by
  have hlen := hv.length
  obtain ⟨hz, hle, hsome, hfz, hread⟩ := hr.blk b _ hg
  have hs : ∀ j, j < us.length → (w.cell? ⟨(ρ b).blk, (ρ b).sh + o + j, none⟩).isSome = true := fun j hj => by
    rw [Nat.add_assoc]; exact hsome (o + j) (by omega)
  have hB := (hr.pos b _ hg).2.2 hro
  have cell := setCells_cell (ρ b).blk us ((ρ b).sh + o) w hs
  refine ⟨hr.bel.trans ((setCells_below _ _ _ _).mono hB), by rw [setCells_size]; exact hr.hB, hr.hro, ?_, ?_, ?_, ?_, hr.ok.step hr.bel (hr.bel.trans ((setCells_below _ _ _ _).mono hB))⟩
  · intro c x hc
    by_cases e : b = c
    · subst e; exact hr.lt b _ hg
    · rw [Hp.get_set_ne e] at hc; exact hr.lt c x hc
  · intro c x hc
    rw [setCells_size]
    by_cases e : b = c
    · subst e; exact hr.pos b _ hg
    · rw [Hp.get_set_ne e] at hc; exact hr.pos c x hc
  · intro c x hc
    by_cases e : b = c
    · subst e
      rw [Hp.get_set_same hg] at hc
      cases hc
      refine ⟨hz, by simp; omega, fun i hi => ?_, fun _ => setCells_row _ _ _ _ (hfz hro), fun i v hi => ?_⟩
      · rw [cell]
        split
        · rename_i hc; rw [List.getElem?_eq_getElem (by omega)]; rfl
        · exact hsome i hi
      · rw [cell]
        by_cases h1 : i < o
        · rw [List.getElem?_append_left (by simp; omega), List.getElem?_take, if_pos h1] at hi
          rw [if_neg (by omega)]
          exact hread i v hi
        · rw [List.getElem?_append_right (by simp; omega)] at hi
          simp only [List.length_take, Nat.min_eq_left (show o ≤ l.length by omega)] at hi
          by_cases h2 : i - o < vs.length
          · rw [List.getElem?_append_left h2] at hi
            rw [if_pos (by omega)]
            obtain ⟨u, hu, hvr⟩ := hv.get _ v hi
            exact ⟨u, by rw [show (ρ b).sh + i - ((ρ b).sh + o) = i - o by omega]; exact hu, hvr⟩
          · rw [List.getElem?_append_right (by omega), List.getElem?_drop] at hi
            rw [if_neg (by omega)]
            rw [show o + vs.length + (i - o - vs.length) = i by omega] at hi
            exact hread i v hi
    · rw [Hp.get_set_ne e] at hc
      by_cases hrc : ro ≤ c
      · exact (hr.blk c x hc).mono (fun _ _ => rfl) (Nat.le_refl _) (setCells_heap_ne _ _ _ _ _ (fun q => hr.inj b c _ _ hg hc hro hrc e q.symm))
      · exact (hr.blk c x hc).mono (fun _ _ => rfl) (Nat.le_refl _) (setCells_heap_ne _ _ _ _ _ (by have := (hr.pos c x hc).2.1 (by omega); omega))
  · intro c d x y hc hd h1 h2 hne
    have key : ∀ {c : Nat} {x : Blk}, (h.set b (.cells z (l.take o ++ (vs ++ l.drop (o + vs.length))))).get c = some x → ∃ y, h.get c = some y := fun {c x} hc => by
      by_cases e : b = c
      · subst e; exact ⟨_, hg⟩
      · rw [Hp.get_set_ne e] at hc; exact ⟨x, hc⟩
    obtain ⟨x', hx⟩ := key hc
    obtain ⟨y', hy⟩ := key hd
    exact hr.inj c d x' y' hx hy h1 h2 hne

/-- A map of the call's own is written. -/
theorem Rel.setMap (hr : Rel B w0 ro ρ h w) {b : Nat} {l l' : List (V × V)} (hg : h.get b = some (.map l)) (hro : ro ≤ b) {es : Array MapEntry} {clock : Nat}
    (he : ERs ρ h.nx l' es.toList) (_hold : ∃ es0 c0, w.heap[(ρ b).blk]? = some (.map es0 c0)) :
    Rel B w0 ro ρ (h.set b (.map l')) { w with heap := w.heap.setIfInBounds (ρ b).blk (.map es clock) } := by
  have hne : ∀ k, k ≠ (ρ b).blk → (w.heap.setIfInBounds (ρ b).blk (Obj.map es clock))[k]? = w.heap[k]? := fun k hk => by
    rw [Array.getElem?_setIfInBounds_ne (Ne.symm hk)]
  have hB := (hr.pos b _ hg).2.2 hro
  have hlt := (hr.pos b _ hg).1
  refine ⟨hr.bel.trans ⟨rfl, rfl, rfl, by simp, fun k hk => hne k (by omega), fun _ => Nat.le_refl _⟩, by simpa using hr.hB, hr.hro, ?_, ?_, ?_, ?_, ⟨hr.ok.1, fun g hg => (hne g (by have := hr.ok.1; omega)).trans (hr.ok.2 g hg)⟩⟩
  · intro c x hc
    by_cases e : b = c
    · subst e; exact hr.lt b _ hg
    · rw [Hp.get_set_ne e] at hc; exact hr.lt c x hc
  · intro c x hc
    simp only [Array.size_setIfInBounds]
    by_cases e : b = c
    · subst e; exact hr.pos b _ hg
    · rw [Hp.get_set_ne e] at hc; exact hr.pos c x hc
  · intro c x hc
    by_cases e : b = c
    · subst e
      rw [Hp.get_set_same hg] at hc
      cases hc
      exact ⟨es, clock, by simp [hlt], he⟩
    · rw [Hp.get_set_ne e] at hc
      by_cases hrc : ro ≤ c
      · exact (hr.blk c x hc).mono (fun _ _ => rfl) (Nat.le_refl _) (hne _ (fun q => hr.inj b c _ _ hg hc hro hrc e q.symm))
      · exact (hr.blk c x hc).mono (fun _ _ => rfl) (Nat.le_refl _) (hne _ (by have := (hr.pos c x hc).2.1 (by omega); omega))
  · intro c d x y hc hd h1 h2 hne
    have key : ∀ {c : Nat} {x : Blk}, (h.set b (.map l')).get c = some x → ∃ y, h.get c = some y := fun {c x} hc => by
      by_cases e : b = c
      · subst e; exact ⟨_, hg⟩
      · rw [Hp.get_set_ne e] at hc; exact ⟨x, hc⟩
    obtain ⟨x', hx⟩ := key hc
    obtain ⟨y', hy⟩ := key hd
    exact hr.inj c d x' y' hx hy h1 h2 hne

/-- An append in place: the old block goes, the new one lies in its row. -/
theorem Rel.inplace (hr : Rel B w0 ro ρ h w) {b z : Nat} {l : List V} (hg : h.get b = some (.cells z l)) (hro : ro ≤ b) {o k : Nat} {news : List V} {us : List Value}
    (hk : o + k ≤ l.length) (hfit : o + k + news.length ≤ (ρ b).e) (hv : VRs ρ h.nx news us) :
    Rel B w0 ro (upd ρ h.nx ⟨(ρ b).blk, (ρ b).sh + o, z, (ρ b).e - o⟩) ((h.del b).new (.cells z ((l.drop o).take k ++ news))) (w.setCells (ρ b).blk ((ρ b).sh + o + k) us) := by
  have hlen := hv.length
  obtain ⟨hz, hle, hsome, hfz, hread⟩ := hr.blk b _ hg
  have hs : ∀ j, j < us.length → (w.cell? ⟨(ρ b).blk, (ρ b).sh + o + k + j, none⟩).isSome = true := fun j hj => by
    rw [Nat.add_assoc, Nat.add_assoc]; exact hsome (o + (k + j)) (by omega)
  have hpos := hr.pos b _ hg
  have hB := hpos.2.2 hro
  have cell := setCells_cell (ρ b).blk us ((ρ b).sh + o + k) w hs
  have hr' := hr.del b
  have hkeep : ∀ c x, (h.del b).get c = some x → (w.setCells (ρ b).blk ((ρ b).sh + o + k) us).heap[(ρ c).blk]? = w.heap[(ρ c).blk]? := fun c x hc => by
    have e : b ≠ c := fun e => by subst e; rw [Hp.get_del_same] at hc; cases hc
    have hc' : h.get c = some x := by rwa [Hp.get_del_ne e] at hc
    refine setCells_heap_ne _ _ _ _ _ fun q => ?_
    by_cases hrc : ro ≤ c
    · exact hr.inj b c _ _ hg hc' hro hrc e q.symm
    · have := (hr.pos c x hc').2.1 (by omega); omega
  refine ⟨hr.bel.trans ((setCells_below _ _ _ _).mono hB), by rw [setCells_size]; exact hr.hB, Nat.le_succ_of_le hr.hro, ?_, ?_, ?_, ?_, hr.ok.step hr.bel (hr.bel.trans ((setCells_below _ _ _ _).mono hB))⟩
  · intro c x hc
    by_cases e : h.nx = c
    · subst e; exact Nat.lt_succ_self _
    · rw [Hp.get_new_ne (h := h.del b) e] at hc; exact Nat.lt_succ_of_lt (hr'.lt c x hc)
  · intro c x hc
    rw [setCells_size]
    by_cases e : h.nx = c
    · subst e
      rw [upd_same]
      exact ⟨hpos.1, fun hlt => absurd hlt (Nat.not_lt.2 hr.hro), fun _ => hB⟩
    · rw [Hp.get_new_ne (h := h.del b) e] at hc
      rw [upd_ne (fun q => e q.symm)]
      exact hr'.pos c x hc
  · intro c x hc
    by_cases e : h.nx = c
    · subst e
      have := Hp.get_new_same (h := h.del b) (x := .cells z ((l.drop o).take k ++ news))
      simp only [Hp.nx_del] at this
      rw [this] at hc
      cases hc
      rw [upd_same]
      refine ⟨rfl, by simp only [List.length_append, List.length_take, List.length_drop]; omega, fun i hi => ?_, fun _ => setCells_row _ _ _ _ (hfz hro), fun i v hi => ?_⟩
      · rw [cell]
        split
        · rename_i hc; rw [List.getElem?_eq_getElem (by omega)]; rfl
        · have := hsome (o + i) (by simp only at hi; omega)
          rwa [show (ρ b).sh + (o + i) = (ρ b).sh + o + i by omega] at this
      · have hlk : ((l.drop o).take k).length = k := by simp; omega
        simp only
        rw [cell]
        by_cases h1 : i < k
        · rw [List.getElem?_append_left (by omega), List.getElem?_take, if_pos h1, List.getElem?_drop] at hi
          rw [if_neg (by omega)]
          obtain ⟨u, hu, hvr⟩ := hread (o + i) v hi
          exact ⟨u, by rw [show (ρ b).sh + o + i = (ρ b).sh + (o + i) by omega]; exact hu, VR.mono upd_lt (Nat.le_succ _) v hvr⟩
        · rw [List.getElem?_append_right (by omega), hlk] at hi
          have h2 : i - k < news.length := by
            rcases Nat.lt_or_ge (i - k) news.length with h' | h'
            · exact h'
            · rw [List.getElem?_eq_none h'] at hi; cases hi
          rw [if_pos (by omega)]
          obtain ⟨u, hu, hvr⟩ := hv.get _ v hi
          exact ⟨u, by rw [show (ρ b).sh + o + i - ((ρ b).sh + o + k) = i - k by omega]; exact hu, VR.mono upd_lt (Nat.le_succ _) v hvr⟩
    · rw [Hp.get_new_ne (h := h.del b) e] at hc
      rw [upd_ne (fun q => e q.symm)]
      exact (hr'.blk c x hc).mono upd_lt (Nat.le_succ _) (hkeep c x hc)
  · intro c d x y hc hd h1 h2 hne
    by_cases ec : h.nx = c
    · by_cases ed : h.nx = d
      · exact absurd (ec.symm.trans ed) hne
      · subst ec
        rw [Hp.get_new_ne (h := h.del b) ed] at hd
        rw [upd_same, upd_ne (fun q => ed q.symm)]
        have e : b ≠ d := fun e => by subst e; rw [Hp.get_del_same] at hd; cases hd
        rw [Hp.get_del_ne e] at hd
        exact hr.inj b d _ _ hg hd hro h2 e
    · rw [Hp.get_new_ne (h := h.del b) ec] at hc
      have e : b ≠ c := fun e => by subst e; rw [Hp.get_del_same] at hc; cases hc
      by_cases ed : h.nx = d
      · subst ed
        rw [upd_same, upd_ne (fun q => ec q.symm)]
        rw [Hp.get_del_ne e] at hc
        exact fun q => hr.inj b c _ _ hg hc hro h1 e q.symm
      · rw [Hp.get_new_ne (h := h.del b) ed] at hd
        rw [upd_ne (fun q => ec q.symm), upd_ne (fun q => ed q.symm)]
        exact hr'.inj c d x y hc hd h1 h2 hne
end
end Go.Am
