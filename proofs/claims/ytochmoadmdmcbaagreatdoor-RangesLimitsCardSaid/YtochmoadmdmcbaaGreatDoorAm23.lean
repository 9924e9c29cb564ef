/- The plain machine, stepped through: slices in the plain heap. -/
import Derived.Test.YtochmoadmdmcbaaGreatDoorAm19
namespace Go.Am
set_option linter.unusedSimpArgs false
set_option linter.unusedVariables false
open Go

/-- A heap that has grown: what was there is there. -/
structure Fr (h0 h : Hp) : Prop where
  sub : ∀ b x, h0.get b = some x → h.get b = some x
  nx : h0.nx ≤ h.nx
  wf : ∀ b x, h.get b = some x → b < h.nx

theorem Fr.refl {h : Hp} (hw : ∀ b x, h.get b = some x → b < h.nx) : Fr h h := ⟨fun _ _ h => h, Nat.le_refl _, hw⟩
theorem Fr.trans {a b c : Hp} (h1 : Fr a b) (h2 : Fr b c) : Fr a c := ⟨fun k x h => h2.sub k x (h1.sub k x h), Nat.le_trans h1.nx h2.nx, h2.wf⟩

theorem Fr.new {h0 h : Hp} (hf : Fr h0 h) (x : Blk) : Fr h0 (h.new x) where
  sub := fun b y hb => by
    have hb' := hf.sub b y hb
    have := hf.wf b y hb'
    rw [Hp.get_new_ne (by omega)]
    exact hb'
  nx := by have := hf.nx; simp; omega
  wf := fun b y hb => by
    by_cases e : h.nx = b
    · subst e; simp
    · rw [Hp.get_new_ne e] at hb
      have := hf.wf b y hb
      simp; omega

theorem Fr.set {h0 h : Hp} (hf : Fr h0 h) (hw0 : ∀ b x, h0.get b = some x → b < h0.nx) {b : Nat} (hb : h0.nx ≤ b) {y : Blk} (hy : h.get b = some y) (x : Blk) : Fr h0 (h.set b x) where
  sub := fun c z hc => by
    have := hw0 c z hc
    rw [Hp.get_set_ne (by omega)]
    exact hf.sub c z hc
  nx := by simpa using hf.nx
  wf := fun c z hc => by
    by_cases e : b = c
    · subst e; simpa using hf.wf b y hy
    · rw [Hp.get_set_ne e] at hc
      simpa using hf.wf c z hc

theorem Fr.del {h0 h : Hp} (hf : Fr h0 h) (hw0 : ∀ b x, h0.get b = some x → b < h0.nx) {b : Nat} (hb : h0.nx ≤ b) : Fr h0 (h.del b) where
  sub := fun c z hc => by
    have := hw0 c z hc
    rw [Hp.get_del_ne (by omega)]
    exact hf.sub c z hc
  nx := by simpa using hf.nx
  wf := fun c z hc => by
    by_cases e : b = c
    · subst e; rw [Hp.get_del_same] at hc; cases hc
    · rw [Hp.get_del_ne e] at hc
      simpa using hf.wf c z hc

/-- A slice shows these cells: elements of a size, n of them. -/
def Sl (h : Hp) (sz : Nat) (v : V) (n : Nat) (l : List V) : Prop := match v with
  | .nsl => n = 0 ∧ l = []
  | .esl => n = 0 ∧ l = []
  | .sl b o m _ => m = n ∧ shown h sz b o n = some l
  | _ => False

/-- A slice of the function's own, its room not known. -/
def Own (lo : Nat) (v : V) : Prop := v = .nsl ∨ ∃ b o n, v = .sl b o n 0 ∧ lo ≤ b

theorem Sl.lenV {h : Hp} {sz n : Nat} {v : V} {l : List V} (hv : Sl h sz v n l) : lenV v = some n := by
  cases v <;> simp only [Sl] at hv
  all_goals (obtain ⟨rfl, hs⟩ := hv; rfl)

theorem shown_fr {h0 h : Hp} (hf : Fr h0 h) {sz b o n : Nat} {l : List V} (hs : shown h0 sz b o n = some l) : shown h sz b o n = some l := by
  unfold shown at hs ⊢
  split at hs
  · rename_i z L hg
    rw [hf.sub b _ hg]
    exact hs
  · cases hs

theorem Sl.fr {h0 h : Hp} (hf : Fr h0 h) {sz n : Nat} {v : V} {l : List V} (hv : Sl h0 sz v n l) : Sl h sz v n l := by
  cases v <;> simp only [Sl] at hv ⊢
  case sl b o m c => exact ⟨hv.1, shown_fr hf hv.2⟩
  all_goals exact hv

/-- What is shown lies in the block's cells. -/
theorem shown_spec {h : Hp} {sz b o n : Nat} {l : List V} (hs : shown h sz b o n = some l) :
    ∃ L, h.get b = some (.cells sz L) ∧ o + n * sz ≤ L.length ∧ l = (L.drop o).take (n * sz) := by
  unfold shown at hs
  split at hs
  · rename_i z L hg
    split at hs
    · rename_i hz
      subst hz
      unfold loadN at hs
      cases hb : Nat.ble (o + n * z) L.length with
      | false => rw [hb] at hs; cases hs
      | true =>
        rw [hb] at hs
        simp only [cond_true, Option.some.injEq] at hs
        exact ⟨L, hg, Nat.le_of_ble_eq_true hb, hs.symm⟩
    · cases hs
  · cases hs

theorem shown_mk {h : Hp} {sz b o n : Nat} {L : List V} (hg : h.get b = some (.cells sz L)) (hl : o + n * sz ≤ L.length) : shown h sz b o n = some ((L.drop o).take (n * sz)) := by
  unfold shown
  rw [hg]
  simp only [if_true, loadN, Nat.ble_eq_true_of_le hl, cond_true]

/-- A cell of a slice. -/
theorem Sl.at {h : Hp} {sz n : Nat} {v : V} {l : List V} (hv : Sl h sz v n l) {j : Nat} {x : V} (hj : l[j]? = some x) :
    ∃ b o c L, v = .sl b o n c ∧ h.get b = some (.cells sz L) ∧ L[o + j]? = some x := by
  cases v <;> simp only [Sl] at hv
  case sl b o m c =>
    obtain ⟨rfl, hs⟩ := hv
    obtain ⟨L, hg, hl, rfl⟩ := shown_spec hs
    refine ⟨b, o, c, L, rfl, hg, ?_⟩
    rw [List.getElem?_take] at hj
    split at hj
    · simpa using hj
    · cases hj
  all_goals (obtain ⟨_, rfl⟩ := hv; simp at hj)

theorem Sl.size {h : Hp} {sz n : Nat} {v : V} {l : List V} (hv : Sl h sz v n l) : l.length = n * sz := by
  cases v <;> simp only [Sl] at hv
  case sl b o m c =>
    obtain ⟨rfl, hs⟩ := hv
    obtain ⟨L, hg, hl, rfl⟩ := shown_spec hs
    simp; omega
  all_goals (obtain ⟨rfl, rfl⟩ := hv; simp)

/-- A new row is shown whole. -/
theorem Sl.ofNew {h : Hp} {sz n c : Nat} {l : List V} (hl : l.length = n * sz) : Sl (h.new (.cells sz l)) sz (.sl h.nx 0 n c) n l := by
  refine ⟨rfl, ?_⟩
  rw [shown_mk (L := l) Hp.get_new_same (by omega), List.drop_zero, List.take_of_length_le (by omega)]

/-- append of a row's cells. -/
theorem app_sl {ro : Nat} {h0 h : Hp} (hf : Fr h0 h) (hw0 : ∀ b x, h0.get b = some x → b < h0.nx) (hro : ro ≤ h0.nx) {sz bytes n m : Nat} {v : V} {l news : List V} (hv : Sl h sz v n l) (ho : Own h0.nx v) (hm : 0 < m) (hnews : news.length = m * sz)
    (hr : (n + m) * bytes ≤ roomMax) (hr2 : n + m ≤ roomMax) :
    ∃ v' h', app ro h sz bytes v m news = some (v', h') ∧ Sl h' sz v' (n + m) (l ++ news) ∧ Own h0.nx v' ∧ Fr h0 h' := by
  rcases ho with rfl | ⟨b, o, k, rfl, hb⟩
  · simp only [Sl] at hv
    obtain ⟨rfl, rfl⟩ := hv
    refine ⟨.sl h.nx 0 m 0, h.new (.cells sz news), ?_, ?_, .inr ⟨_, _, _, rfl, hf.nx⟩, hf.new _⟩
    · have h1 : m * bytes ≤ roomMax := by rw [Nat.zero_add] at hr; exact hr
      simp only [app]
      rw [if_neg (by omega), if_pos ⟨h1, by omega⟩]
    · rw [Nat.zero_add, List.nil_append]
      exact Sl.ofNew hnews
  · simp only [Sl] at hv
    obtain ⟨rfl, hs⟩ := hv
    refine ⟨.sl h.nx 0 (k + m) 0, (h.del b).new (.cells sz (l ++ news)), ?_, ?_, .inr ⟨_, _, _, rfl, hf.nx⟩, (hf.del hw0 hb).new _⟩
    · simp only [app, hs]
      rw [if_neg (by omega), if_pos ⟨hr, hr2⟩]
      simp only [if_true, Option.bind_some]
      rw [if_pos (by omega)]
    · have hl : l.length = k * sz := Sl.size (h := h) (v := .sl b o k 0) ⟨rfl, hs⟩
      have := Sl.ofNew (h := h.del b) (sz := sz) (n := k + m) (c := 0) (l := l ++ news) (by rw [List.length_append, hl, hnews, Nat.add_mul])
      simpa using this

/-- A cell of a slice is written. -/
theorem Sl.put {h0 h : Hp} (hf : Fr h0 h) (hw0 : ∀ b x, h0.get b = some x → b < h0.nx) {sz n b o c j : Nat} {l L : List V} {x : V} (hv : Sl h sz (.sl b o n c) n l) (hb : h0.nx ≤ b) (hg : h.get b = some (.cells sz L)) (hj : j < l.length) :
    ∃ L', setN L (o + j) [x] = some L' ∧ Sl (h.set b (.cells sz L')) sz (.sl b o n c) n (l.set j x) ∧ Fr h0 (h.set b (.cells sz L')) := by
  obtain ⟨_, hs⟩ := hv
  obtain ⟨L2, hg2, hl, rfl⟩ := shown_spec hs
  rw [hg] at hg2
  simp only [Option.some.injEq, Blk.cells.injEq, true_and] at hg2
  subst hg2
  have hj2 : j < n * sz ∧ o + j < L.length := by simp at hj; omega
  have hset : setN L (o + j) [x] = some (L.set (o + j) x) := by
    unfold setN
    have : Nat.ble (o + j + [x].length) L.length = true := Nat.ble_eq_true_of_le (by simp; omega)
    rw [this]
    simp only [cond_true, Option.some.injEq]
    rw [List.set_eq_take_append_cons_drop, if_pos hj2.2]
    rfl
  refine ⟨_, hset, ⟨rfl, ?_⟩, hf.set hw0 hb hg _⟩
  rw [shown_mk (L := L.set (o + j) x) (Hp.get_set_same hg) (by simpa using hl)]
  congr 1
  apply List.ext_getElem?
  intro i
  by_cases hi : i < n * sz
  · simp only [List.getElem?_take, hi, if_true, List.getElem?_drop, List.getElem?_set]
    by_cases e : j = i
    · subst e
      have h3 : j < L.length - o := by omega
      simp [hj2.2]
      omega
    · have : ¬ (o + j = o + i) := by omega
      simp [e]
  · have h1 : ¬ (j = i) := by omega
    simp [List.getElem?_take, hi, h1]
end Go.Am
/- The plain machine, stepped through: rows of pairs of numbers; writes. -/
namespace Go.Am
open Go

def flat : List (Int × Int) → List V
  | [] => []
  | (a, b) :: r => .int .i64 a :: .int .i64 b :: flat r

theorem flat_len : ∀ l, (flat l).length = l.length * 2
  | [] => rfl
  | (a, b) :: r => by simp [flat, flat_len r]; omega

theorem flat_append : ∀ {a b : List (Int × Int)}, flat (a ++ b) = flat a ++ flat b
  | [], _ => rfl
  | (x, y) :: r, b => by simp [flat, flat_append (a := r)]

theorem flat_get : ∀ {l : List (Int × Int)} {i : Nat} {p : Int × Int}, l[i]? = some p → (flat l)[i * 2]? = some (.int .i64 p.1) ∧ (flat l)[i * 2 + 1]? = some (.int .i64 p.2)
  | [], i, p, h => by simp at h
  | (a, b) :: r, 0, p, h => by simp at h; subst h; simp [flat]
  | (a, b) :: r, i + 1, p, h => by
    have := flat_get (l := r) (i := i) (p := p) (by simpa using h)
    have e1 : (i + 1) * 2 = (i * 2) + 1 + 1 := by omega
    simp only [flat, e1, List.getElem?_cons_succ]
    exact this

theorem flat_set : ∀ {l : List (Int × Int)} {i : Nat} {p : Int × Int} {y : Int}, l[i]? = some p → (flat l).set (i * 2 + 1) (.int .i64 y) = flat (l.set i (p.1, y))
  | [], i, p, y, h => by simp at h
  | (a, b) :: r, 0, p, y, h => by simp at h; subst h; simp [flat]
  | (a, b) :: r, i + 1, p, y, h => by
    have := flat_set (l := r) (i := i) (p := p) (y := y) (by simpa using h)
    have e1 : (i + 1) * 2 + 1 = (i * 2 + 1) + 1 + 1 := by omega
    simp only [flat, e1, List.set_cons_succ, this]

/-- A slice of ranges. -/
def SlG (h : Hp) (v : V) (l : List (Int × Int)) : Prop := Sl h 2 v l.length (flat l)

theorem SlG.at {h : Hp} {v : V} {l : List (Int × Int)} (hv : SlG h v l) {i : Nat} {p : Int × Int} (hp : l[i]? = some p) :
    ∃ b o c L, v = .sl b o l.length c ∧ h.get b = some (.cells 2 L) ∧ L[o + i * 2]? = some (.int .i64 p.1) ∧ L[o + i * 2 + 1]? = some (.int .i64 p.2) := by
  obtain ⟨h1, h2⟩ := flat_get hp
  obtain ⟨b, o, c, L, rfl, hg, q1⟩ := Sl.at hv h1
  obtain ⟨b', o', c', L', e, hg', q2⟩ := Sl.at hv h2
  cases e
  rw [hg] at hg'
  cases hg'
  exact ⟨b, o, c, L, rfl, hg, q1, by rw [Nat.add_assoc]; exact q2⟩

theorem loadN_two {L : List V} {o : Nat} {x y : V} (h1 : L[o]? = some x) (h2 : L[o + 1]? = some y) : loadN L o 2 = some [x, y] := by
  have hl : o + 1 < L.length := by
    rcases Nat.lt_or_ge (o + 1) L.length with h | h
    · exact h
    · rw [List.getElem?_eq_none h] at h2; cases h2
  unfold loadN
  have : Nat.ble (o + 2) L.length = true := Nat.ble_eq_true_of_le (by omega)
  rw [this]
  simp only [cond_true, Option.some.injEq]
  apply List.ext_getElem?
  intro i
  rcases i with _ | _ | i
  · simp [h1]
  · simp [h2]
  · simp [List.getElem?_take]; omega

section
variable {ro : Nat} {e : Env} {h : Hp}
theorem op1_store {n : Nat} {a x : A} {b o z : Nat} {l l' : List V} {v : V} (ha : a.ev e = some (.ptr b o)) (hx : x.ev e = some v) (hro : ro ≤ b) (hn : v.cells.length = n) (h1 : v.cells.all V.one = true) (hg : h.get b = some (.cells z l)) (hs : setN l o v.cells = some l') :
    op1 ro e h (.store n a x) = some (.tup [], h.set b (.cells z l')) := by
  simp only [op1, ha, hx, Option.bind_some, hn, h1, hro, and_self, if_true, hg, hs]

theorem OB_store {n : Nat} {a x : A} {b o z : Nat} {l l' : List V} {v : V} {Q : V × Hp → Prop} (ha : a.ev e = some (.ptr b o)) (hx : x.ev e = some v) (hro : ro ≤ b) (hn : v.cells.length = n) (h1 : v.cells.all V.one = true) (hg : h.get b = some (.cells z l)) (hs : setN l o v.cells = some l')
    (H : Q (.tup [], h.set b (.cells z l'))) : OB (op1 ro e h (.store n a x)) Q := by
  rw [op1_store ha hx hro hn h1 hg hs, OB_some]
  exact H

theorem Own.mono {lo lo' : Nat} {v : V} (ho : Own lo v) (hl : lo' ≤ lo) : Own lo' v := by
  rcases ho with rfl | ⟨b, o, n, rfl, hb⟩
  · exact .inl rfl
  · exact .inr ⟨b, o, n, rfl, by omega⟩

theorem Sl.set_ne {h : Hp} {lo sz n b : Nat} {v : V} {l : List V} (hv : Sl h sz v n l) (ho : Own lo v) (hb : b < lo) (x : Blk) : Sl (h.set b x) sz v n l := by
  rcases ho with rfl | ⟨b', o, k, rfl, hb'⟩
  · exact hv
  · refine ⟨hv.1, ?_⟩
    have h2 := hv.2
    unfold shown at h2 ⊢
    rw [Hp.get_set_ne (by omega)]
    exact h2

theorem Own.cells {lo : Nat} {v : V} (ho : Own lo v) : v.cells = [v] ∧ V.one v = true := by
  rcases ho with rfl | ⟨b, o, n, rfl, _⟩ <;> exact ⟨rfl, rfl⟩

theorem op1_app {sz bytes m c : Nat} {s x : A} {v v' : V} {b o : Nat} {news : List V} {h' : Hp} (hs : s.ev e = some v) (hx : x.ev e = some (.sl b o m c)) (hn : shown h sz b o m = some news) (h1 : news.all V.one = true) (ha : app ro h sz bytes v m news = some (v', h')) :
    op1 ro e h (.app sz bytes s x) = some (v', h') := by
  simp only [op1, hs, hx, Option.bind_some, hn, h1, if_true, ha]

theorem setN_zero {v : V} {x : V} : setN [x] 0 [v] = some [v] := rfl
end
end Go.Am
