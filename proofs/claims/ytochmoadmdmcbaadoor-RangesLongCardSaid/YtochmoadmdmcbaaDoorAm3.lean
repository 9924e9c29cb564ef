/- What the heap's steps keep of the relation: a new block, a store, a block let go, an append in place. -/
import Derived.Test.YtochmoadmdmcbaaDoorAm2
namespace Go.Am
open Go Go.RowKit
variable [Dr]

def upd (ρ : Nat → Pl) (n : Nat) (p : Pl) : Nat → Pl := fun b => if b = n then p else ρ b
omit [Dr] in
theorem upd_same {ρ : Nat → Pl} {n : Nat} {p : Pl} : upd ρ n p n = p := by simp [upd]
omit [Dr] in
theorem upd_lt {ρ : Nat → Pl} {n : Nat} {p : Pl} : ∀ b, b < n → upd ρ n p b = ρ b := fun b hb => by simp [upd, Nat.ne_of_lt hb]
omit [Dr] in
theorem upd_ne {ρ : Nat → Pl} {n : Nat} {p : Pl} {b : Nat} (h : b ≠ n) : upd ρ n p b = ρ b := by simp [upd, h]

section
variable {B : Nat} {w0 w w' : World} {ro : Nat} {ρ : Nat → Pl} {h : Hp}

/-- The world moves on, all blocks that were there stay as they were. -/
theorem Rel.same (hr : Rel B w0 ro ρ h w) (hb : Bel w.heap.size w w') : Rel B w0 ro ρ h w' where
  bel := hr.bel.trans (hb.mono hr.hB)
  hB := Nat.le_trans hr.hB hb.size
  hro := hr.hro
  lt := hr.lt
  pos := fun b x hg => ⟨Nat.lt_of_lt_of_le (hr.pos b x hg).1 hb.size, (hr.pos b x hg).2⟩
  blk := fun b x hg => (hr.blk b x hg).mono (fun _ _ => rfl) (Nat.le_refl _) (hb.block _ (hr.pos b x hg).1)
  inj := hr.inj

theorem Rel.drew (hr : Rel B w0 ro ρ h w) : Rel B w0 ro ρ h w.drew := hr.same (Bel.refl _ _).drew

/-- A new block. -/
theorem Rel.newAt (hr : Rel B w0 ro ρ h w) (hb : Bel w.heap.size w w') (p : Pl) (hp : w.heap.size ≤ p.blk) (hp' : p.blk < w'.heap.size) (x : Blk)
    (hx : BR ρ h.nx w' True p x) : Rel B w0 ro (upd ρ h.nx p) (h.new x) w' where
  bel := hr.bel.trans (hb.mono hr.hB)
  hB := Nat.le_trans hr.hB hb.size
  hro := Nat.le_succ_of_le hr.hro
  lt := fun b y hg => by
    by_cases e : h.nx = b
    · subst e; exact Nat.lt_succ_self _
    · rw [Hp.get_new_ne e] at hg; exact Nat.lt_succ_of_lt (hr.lt b y hg)
  pos := fun b y hg => by
    by_cases e : h.nx = b
    · subst e
      rw [upd_same]
      exact ⟨hp', fun hlt => absurd hlt (Nat.not_lt.2 hr.hro), fun _ => Nat.le_trans hr.hB hp⟩
    · rw [Hp.get_new_ne e] at hg
      rw [upd_ne (fun q => e q.symm)]
      exact ⟨Nat.lt_of_lt_of_le (hr.pos b y hg).1 hb.size, (hr.pos b y hg).2⟩
  blk := fun b y hg => by
    by_cases e : h.nx = b
    · subst e
      rw [Hp.get_new_same] at hg
      cases hg
      rw [upd_same]
      have := hx.mono (ρ' := upd ρ h.nx p) (nx' := h.nx + 1) upd_lt (Nat.le_succ _) rfl
      cases x with
      | cells z l => exact ⟨this.1, this.2.1, this.2.2.1, fun _ => this.2.2.2.1 trivial, this.2.2.2.2⟩
      | map l => exact this
    · rw [Hp.get_new_ne e] at hg
      rw [upd_ne (fun q => e q.symm)]
      exact (hr.blk b y hg).mono upd_lt (Nat.le_succ _) (hb.block _ (hr.pos b y hg).1)
  inj := fun b c x1 y1 hb1 hc1 hrb hrc hne => by
    by_cases eb : h.nx = b
    · by_cases ec : h.nx = c
      · exact absurd (eb.symm.trans ec) hne
      · subst eb
        rw [Hp.get_new_ne ec] at hc1
        rw [upd_same, upd_ne (fun q => ec q.symm)]
        have := (hr.pos c y1 hc1).1
        omega
    · rw [Hp.get_new_ne eb] at hb1
      by_cases ec : h.nx = c
      · subst ec
        rw [upd_same, upd_ne (fun q => eb q.symm)]
        have := (hr.pos b x1 hb1).1
        omega
      · rw [Hp.get_new_ne ec] at hc1
        rw [upd_ne (fun q => eb q.symm), upd_ne (fun q => ec q.symm)]
        exact hr.inj b c x1 y1 hb1 hc1 hrb hrc hne

theorem Rel.del (hr : Rel B w0 ro ρ h w) (b : Nat) : Rel B w0 ro ρ (h.del b) w := by
  have key : ∀ {c : Nat} {x : Blk}, (h.del b).get c = some x → h.get c = some x := fun {c x} hg => by
    by_cases e : b = c
    · subst e; rw [Hp.get_del_same] at hg; cases hg
    · rwa [Hp.get_del_ne e] at hg
  exact ⟨hr.bel, hr.hB, hr.hro, fun c x hg => hr.lt c x (key hg), fun c x hg => hr.pos c x (key hg), fun c x hg => hr.blk c x (key hg),
    fun c d x y hc hd h1 h2 hne => hr.inj c d x y (key hc) (key hd) h1 h2 hne⟩

omit [Dr] in
theorem setCells_heap_ne (b : Nat) : ∀ (vs : List Value) (o : Nat) (w : World) (k : Nat), k ≠ b → (w.setCells b o vs).heap[k]? = w.heap[k]?
  | [], _, _, _, _ => rfl
  | v :: vs, o, w, k, hk => by
    rw [World.setCells, setCells_heap_ne b vs (o + 1) _ k hk]
    exact Below.heap_setCell w ⟨b, o, none⟩ v k hk
omit [Dr] in
theorem setCells_size (b : Nat) : ∀ (vs : List Value) (o : Nat) (w : World), (w.setCells b o vs).heap.size = w.heap.size
  | [], _, _ => rfl
  | v :: vs, o, w => by rw [World.setCells, setCells_size b vs]; simp
theorem setCells_below (b : Nat) : ∀ (vs : List Value) (o : Nat) (w : World), Bel b w (w.setCells b o vs)
  | [], _, _ => Bel.refl _ _
  | v :: vs, o, w => by
    rw [World.setCells]
    exact ((Bel.refl b w).setCell (p := ⟨b, o, none⟩) (Nat.le_refl _) v).trans (setCells_below b vs (o + 1) _)
omit [Dr] in
/-- What a cell of the block reads behind the stores. -/
theorem setCells_cell (b : Nat) (vs : List Value) (o : Nat) (w : World) (hs : ∀ j, j < vs.length → (w.cell? ⟨b, o + j, none⟩).isSome = true) (i : Nat) :
    (w.setCells b o vs).cell? ⟨b, i, none⟩ = if o ≤ i ∧ i < o + vs.length then vs[i - o]? else w.cell? ⟨b, i, none⟩ := by
  by_cases hi : o ≤ i ∧ i < o + vs.length
  · rw [if_pos hi]
    have hj : i - o < vs.length := by omega
    have := World.cell?_setCells_in b vs o w hs (i - o) hj
    rw [show o + (i - o) = i by omega] at this
    rw [this, List.getElem?_eq_getElem hj]
  · rw [if_neg hi]
    exact World.cell?_setCells_out b vs o w ⟨b, i, none⟩ (fun _ _ => by simp only; omega)

omit [Dr] in
theorem setCells_row (b : Nat) : ∀ (vs : List Value) (o : Nat) (w : World), OwnRow w b → OwnRow (w.setCells b o vs) b
  | [], _, _, h => h
  | v :: vs, o, w, h => by
    rw [World.setCells]
    refine setCells_row b vs (o + 1) _ ?_
    obtain ⟨arr, el, lo, hi, hg, hc⟩ := h
    exact ⟨arr.setIfInBounds o v, el, lo, hi, by simp [World.setCell, Array.getElem?_modify, hg], by simpa using hc⟩

/-- A store into a block of the call's own. -/
theorem Rel.store (hr : Rel B w0 ro ρ h w) {b z : Nat} {l : List V} (hg : h.get b = some (.cells z l)) (hro : ro ≤ b) {o : Nat} {vs : List V} {us : List Value}
    (hl : o + vs.length ≤ l.length) (hv : VRs ρ h.nx vs us) :
    Rel B w0 ro ρ (h.set b (.cells z (l.take o ++ (vs ++ l.drop (o + vs.length))))) (w.setCells (ρ b).blk ((ρ b).sh + o) us) := by
  have hlen := hv.length
  obtain ⟨hz, hle, hsome, hfz, hread⟩ := hr.blk b _ hg
  have hs : ∀ j, j < us.length → (w.cell? ⟨(ρ b).blk, (ρ b).sh + o + j, none⟩).isSome = true := fun j hj => by
    rw [Nat.add_assoc]; exact hsome (o + j) (by omega)
  have hB := (hr.pos b _ hg).2.2 hro
  have cell := setCells_cell (ρ b).blk us ((ρ b).sh + o) w hs
  refine ⟨hr.bel.trans ((setCells_below _ _ _ _).mono hB), by rw [setCells_size]; exact hr.hB, hr.hro, ?_, ?_, ?_, ?_⟩
  · intro c x hc
    by_cases e : b = c
    · subst e; exact hr.lt b _ hg
    · rw [Hp.get_set_ne e] at hc; exact hr.lt c x hc
  · intro c x hc
    rw [setCells_size]
    by_cases e : b = c
    · subst e; exact hr.pos b _ hg
    · rw [Hp.get_set_ne e] at hc; exact hr.pos c x hc
  · intro c x hc
    by_cases e : b = c
    · subst e
      rw [Hp.get_set_same hg] at hc
      cases hc
      refine ⟨hz, by simp; omega, fun i hi => ?_, fun _ => setCells_row _ _ _ _ (hfz hro), fun i v hi => ?_⟩
      · rw [cell]
        split
        · rename_i hc; rw [List.getElem?_eq_getElem (by omega)]; rfl
        · exact hsome i hi
      · rw [cell]
        by_cases h1 : i < o
        · rw [List.getElem?_append_left (by simp; omega), List.getElem?_take, if_pos h1] at hi
          rw [if_neg (by omega)]
          exact hread i v hi
        · rw [List.getElem?_append_right (by simp; omega)] at hi
          simp only [List.length_take, Nat.min_eq_left (show o ≤ l.length by omega)] at hi
          by_cases h2 : i - o < vs.length
          · rw [List.getElem?_append_left h2] at hi
            rw [if_pos (by omega)]
            obtain ⟨u, hu, hvr⟩ := hv.get _ v hi
            exact ⟨u, by rw [show (ρ b).sh + i - ((ρ b).sh + o) = i - o by omega]; exact hu, hvr⟩
          · rw [List.getElem?_append_right (by omega), List.getElem?_drop] at hi
            rw [if_neg (by omega)]
            rw [show o + vs.length + (i - o - vs.length) = i by omega] at hi
            exact hread i v hi
    · rw [Hp.get_set_ne e] at hc
      by_cases hrc : ro ≤ c
      · exact (hr.blk c x hc).mono (fun _ _ => rfl) (Nat.le_refl _) (setCells_heap_ne _ _ _ _ _ (fun q => hr.inj b c _ _ hg hc hro hrc e q.symm))
      · exact (hr.blk c x hc).mono (fun _ _ => rfl) (Nat.le_refl _) (setCells_heap_ne _ _ _ _ _ (by have := (hr.pos c x hc).2.1 (by omega); omega))
  · intro c d x y hc hd h1 h2 hne
    have key : ∀ {c : Nat} {x : Blk}, (h.set b (.cells z (l.take o ++ (vs ++ l.drop (o + vs.length))))).get c = some x → ∃ y, h.get c = some y := fun {c x} hc => by
      by_cases e : b = c
      · subst e; exact ⟨_, hg⟩
      · rw [Hp.get_set_ne e] at hc; exact ⟨x, hc⟩
    obtain ⟨x', hx⟩ := key hc
    obtain ⟨y', hy⟩ := key hd
    exact hr.inj c d x' y' hx hy h1 h2 hne

/-- A map of the call's own is written. -/
theorem Rel.setMap (hr : Rel B w0 ro ρ h w) {b : Nat} {l l' : List (V × V)} (hg : h.get b = some (.map l)) (hro : ro ≤ b) {es : Array MapEntry} {clock : Nat}
    (he : ERs ρ h.nx l' es.toList) (_hold : ∃ es0 c0, w.heap[(ρ b).blk]? = some (.map es0 c0)) :
    Rel B w0 ro ρ (h.set b (.map l')) { w with heap := w.heap.setIfInBounds (ρ b).blk (.map es clock) } := by
  have hne : ∀ k, k ≠ (ρ b).blk → (w.heap.setIfInBounds (ρ b).blk (Obj.map es clock))[k]? = w.heap[k]? := fun k hk => by
    rw [Array.getElem?_setIfInBounds_ne (Ne.symm hk)]
  have hB := (hr.pos b _ hg).2.2 hro
  have hlt := (hr.pos b _ hg).1
  refine ⟨hr.bel.trans ⟨rfl, rfl, rfl, by simp, fun k hk => hne k (by omega), fun _ => Nat.le_refl _⟩, by simpa using hr.hB, hr.hro, ?_, ?_, ?_, ?_⟩
  · intro c x hc
    by_cases e : b = c
    · subst e; exact hr.lt b _ hg
    · rw [Hp.get_set_ne e] at hc; exact hr.lt c x hc
  · intro c x hc
    simp only [Array.size_setIfInBounds]
    by_cases e : b = c
    · subst e; exact hr.pos b _ hg
    · rw [Hp.get_set_ne e] at hc; exact hr.pos c x hc
  · intro c x hc
    by_cases e : b = c
    · subst e
      rw [Hp.get_set_same hg] at hc
      cases hc
      exact ⟨es, clock, by simp [hlt], he⟩
    · rw [Hp.get_set_ne e] at hc
      by_cases hrc : ro ≤ c
      · exact (hr.blk c x hc).mono (fun _ _ => rfl) (Nat.le_refl _) (hne _ (fun q => hr.inj b c _ _ hg hc hro hrc e q.symm))
      · exact (hr.blk c x hc).mono (fun _ _ => rfl) (Nat.le_refl _) (hne _ (by have := (hr.pos c x hc).2.1 (by omega); omega))
  · intro c d x y hc hd h1 h2 hne
    have key : ∀ {c : Nat} {x : Blk}, (h.set b (.map l')).get c = some x → ∃ y, h.get c = some y := fun {c x} hc => by
      by_cases e : b = c
      · subst e; exact ⟨_, hg⟩
      · rw [Hp.get_set_ne e] at hc; exact ⟨x, hc⟩
    obtain ⟨x', hx⟩ := key hc
    obtain ⟨y', hy⟩ := key hd
    exact hr.inj c d x' y' hx hy h1 h2 hne

/-- An append in place: the old block goes, the new one lies in its row. -/
theorem Rel.inplace (hr : Rel B w0 ro ρ h w) {b z : Nat} {l : List V} (hg : h.get b = some (.cells z l)) (hro : ro ≤ b) {o k : Nat} {news : List V} {us : List Value}
    (hk : o + k ≤ l.length) (hfit : o + k + news.length ≤ (ρ b).e) (hv : VRs ρ h.nx news us) :
    Rel B w0 ro (upd ρ h.nx ⟨(ρ b).blk, (ρ b).sh + o, z, (ρ b).e - o⟩) ((h.del b).new (.cells z ((l.drop o).take k ++ news))) (w.setCells (ρ b).blk ((ρ b).sh + o + k) us) := by
  have hlen := hv.length
  obtain ⟨hz, hle, hsome, hfz, hread⟩ := hr.blk b _ hg
  have hs : ∀ j, j < us.length → (w.cell? ⟨(ρ b).blk, (ρ b).sh + o + k + j, none⟩).isSome = true := fun j hj => by
    rw [Nat.add_assoc, Nat.add_assoc]; exact hsome (o + (k + j)) (by omega)
  have hpos := hr.pos b _ hg
  have hB := hpos.2.2 hro
  have cell := setCells_cell (ρ b).blk us ((ρ b).sh + o + k) w hs
  have hr' := hr.del b
  have hkeep : ∀ c x, (h.del b).get c = some x → (w.setCells (ρ b).blk ((ρ b).sh + o + k) us).heap[(ρ c).blk]? = w.heap[(ρ c).blk]? := fun c x hc => by
    have e : b ≠ c := fun e => by subst e; rw [Hp.get_del_same] at hc; cases hc
    have hc' : h.get c = some x := by rwa [Hp.get_del_ne e] at hc
    refine setCells_heap_ne _ _ _ _ _ fun q => ?_
    by_cases hrc : ro ≤ c
    · exact hr.inj b c _ _ hg hc' hro hrc e q.symm
    · have := (hr.pos c x hc').2.1 (by omega); omega
  refine ⟨hr.bel.trans ((setCells_below _ _ _ _).mono hB), by rw [setCells_size]; exact hr.hB, Nat.le_succ_of_le hr.hro, ?_, ?_, ?_, ?_⟩
  · intro c x hc
    by_cases e : h.nx = c
    · subst e; exact Nat.lt_succ_self _
    · rw [Hp.get_new_ne (h := h.del b) e] at hc; exact Nat.lt_succ_of_lt (hr'.lt c x hc)
  · intro c x hc
    rw [setCells_size]
    by_cases e : h.nx = c
    · subst e
      rw [upd_same]
      exact ⟨hpos.1, fun hlt => absurd hlt (Nat.not_lt.2 hr.hro), fun _ => hB⟩
    · rw [Hp.get_new_ne (h := h.del b) e] at hc
      rw [upd_ne (fun q => e q.symm)]
      exact hr'.pos c x hc
  · intro c x hc
    by_cases e : h.nx = c
    · subst e
      have := Hp.get_new_same (h := h.del b) (x := .cells z ((l.drop o).take k ++ news))
      simp only [Hp.nx_del] at this
      rw [this] at hc
      cases hc
      rw [upd_same]
      refine ⟨rfl, by simp only [List.length_append, List.length_take, List.length_drop]; omega, fun i hi => ?_, fun _ => setCells_row _ _ _ _ (hfz hro), fun i v hi => ?_⟩
      · rw [cell]
        split
        · rename_i hc; rw [List.getElem?_eq_getElem (by omega)]; rfl
        · have := hsome (o + i) (by simp only at hi; omega)
          rwa [show (ρ b).sh + (o + i) = (ρ b).sh + o + i by omega] at this
      · have hlk : ((l.drop o).take k).length = k := by simp; omega
        simp only
        rw [cell]
        by_cases h1 : i < k
        · rw [List.getElem?_append_left (by omega), List.getElem?_take, if_pos h1, List.getElem?_drop] at hi
          rw [if_neg (by omega)]
          obtain ⟨u, hu, hvr⟩ := hread (o + i) v hi
          exact ⟨u, by rw [show (ρ b).sh + o + i = (ρ b).sh + (o + i) by omega]; exact hu, VR.mono upd_lt (Nat.le_succ _) v hvr⟩
        · rw [List.getElem?_append_right (by omega), hlk] at hi
          have h2 : i - k < news.length := by
            rcases Nat.lt_or_ge (i - k) news.length with h' | h'
            · exact h'
            · rw [List.getElem?_eq_none h'] at hi; cases hi
          rw [if_pos (by omega)]
          obtain ⟨u, hu, hvr⟩ := hv.get _ v hi
          exact ⟨u, by rw [show (ρ b).sh + o + i - ((ρ b).sh + o + k) = i - k by omega]; exact hu, VR.mono upd_lt (Nat.le_succ _) v hvr⟩
    · rw [Hp.get_new_ne (h := h.del b) e] at hc
      rw [upd_ne (fun q => e q.symm)]
      exact (hr'.blk c x hc).mono upd_lt (Nat.le_succ _) (hkeep c x hc)
  · intro c d x y hc hd h1 h2 hne
    by_cases ec : h.nx = c
    · by_cases ed : h.nx = d
      · exact absurd (ec.symm.trans ed) hne
      · subst ec
        rw [Hp.get_new_ne (h := h.del b) ed] at hd
        rw [upd_same, upd_ne (fun q => ed q.symm)]
        have e : b ≠ d := fun e => by subst e; rw [Hp.get_del_same] at hd; cases hd
        rw [Hp.get_del_ne e] at hd
        exact hr.inj b d _ _ hg hd hro h2 e
    · rw [Hp.get_new_ne (h := h.del b) ec] at hc
      have e : b ≠ c := fun e => by subst e; rw [Hp.get_del_same] at hc; cases hc
      by_cases ed : h.nx = d
      · subst ed
        rw [upd_same, upd_ne (fun q => ec q.symm)]
        rw [Hp.get_del_ne e] at hc
        exact fun q => hr.inj b c _ _ hg hc hro h1 e q.symm
      · rw [Hp.get_new_ne (h := h.del b) ed] at hd
        rw [upd_ne (fun q => ec q.symm), upd_ne (fun q => ed q.symm)]
        exact hr'.inj c d x y hc hd h1 h2 hne
end
end Go.Am
