/- The plain machine, stepped through: rows of pairs of numbers; writes. -/
import Derived.Test.YtochmoadmdmcbaaDoorAm23
namespace Go.Am
open Go

def flat : List (Int × Int) → List V
  | [] => []
  | (a, b) :: r => .int .i64 a :: .int .i64 b :: flat r

theorem flat_len : ∀ l, (flat l).length = l.length * 2
  | [] => rfl
  | (a, b) :: r => by simp [flat, flat_len r]; omega

theorem flat_append : ∀ {a b : List (Int × Int)}, flat (a ++ b) = flat a ++ flat b
  | [], _ => rfl
  | (x, y) :: r, b => by simp [flat, flat_append (a := r)]

theorem flat_get : ∀ {l : List (Int × Int)} {i : Nat} {p : Int × Int}, l[i]? = some p → (flat l)[i * 2]? = some (.int .i64 p.1) ∧ (flat l)[i * 2 + 1]? = some (.int .i64 p.2)
  | [], i, p, h => by simp at h
  | (a, b) :: r, 0, p, h => by simp at h; subst h; simp [flat]
  | (a, b) :: r, i + 1, p, h => by
    have := flat_get (l := r) (i := i) (p := p) (by simpa using h)
    have e1 : (i + 1) * 2 = (i * 2) + 1 + 1 := by omega
    simp only [flat, e1, List.getElem?_cons_succ]
    exact this

theorem flat_set : ∀ {l : List (Int × Int)} {i : Nat} {p : Int × Int} {y : Int}, l[i]? = some p → (flat l).set (i * 2 + 1) (.int .i64 y) = flat (l.set i (p.1, y))
  | [], i, p, y, h => by simp at h
  | (a, b) :: r, 0, p, y, h => by simp at h; subst h; simp [flat]
  | (a, b) :: r, i + 1, p, y, h => by
    have := flat_set (l := r) (i := i) (p := p) (y := y) (by simpa using h)
    have e1 : (i + 1) * 2 + 1 = (i * 2 + 1) + 1 + 1 := by omega
    simp only [flat, e1, List.set_cons_succ, this]

/-- A slice of ranges. -/
def SlG (h : Hp) (v : V) (l : List (Int × Int)) : Prop := Sl h 2 v l.length (flat l)

theorem SlG.at {h : Hp} {v : V} {l : List (Int × Int)} (hv : SlG h v l) {i : Nat} {p : Int × Int} (hp : l[i]? = some p) :
    ∃ b o c L, v = .sl b o l.length c ∧ h.get b = some (.cells 2 L) ∧ L[o + i * 2]? = some (.int .i64 p.1) ∧ L[o + i * 2 + 1]? = some (.int .i64 p.2) := by
  obtain ⟨h1, h2⟩ := flat_get hp
  obtain ⟨b, o, c, L, rfl, hg, q1⟩ := Sl.at hv h1
  obtain ⟨b', o', c', L', e, hg', q2⟩ := Sl.at hv h2
  cases e
  rw [hg] at hg'
  cases hg'
  exact ⟨b, o, c, L, rfl, hg, q1, by rw [Nat.add_assoc]; exact q2⟩

theorem loadN_two {L : List V} {o : Nat} {x y : V} (h1 : L[o]? = some x) (h2 : L[o + 1]? = some y) : loadN L o 2 = some [x, y] := by
  have hl : o + 1 < L.length := by
    rcases Nat.lt_or_ge (o + 1) L.length with h | h
    · exact h
    · rw [List.getElem?_eq_none h] at h2; cases h2
  unfold loadN
  have : Nat.ble (o + 2) L.length = true := Nat.ble_eq_true_of_le (by omega)
  rw [this]
  simp only [cond_true, Option.some.injEq]
  apply List.ext_getElem?
  intro i
  rcases i with _ | _ | i
  · simp [h1]
  · simp [h2]
  · simp [List.getElem?_take]; omega

section
variable {ro : Nat} {e : Env} {h : Hp}
theorem op1_store {n : Nat} {a x : A} {b o z : Nat} {l l' : List V} {v : V} (ha : a.ev e = some (.ptr b o)) (hx : x.ev e = some v) (hro : ro ≤ b) (hn : v.cells.length = n) (h1 : v.cells.all V.one = true) (hg : h.get b = some (.cells z l)) (hs : setN l o v.cells = some l') :
    op1 ro e h (.store n a x) = some (.tup [], h.set b (.cells z l')) := by
  simp only [op1, ha, hx, Option.bind_some, hn, h1, hro, and_self, if_true, hg, hs]

theorem OB_store {n : Nat} {a x : A} {b o z : Nat} {l l' : List V} {v : V} {Q : V × Hp → Prop} (ha : a.ev e = some (.ptr b o)) (hx : x.ev e = some v) (hro : ro ≤ b) (hn : v.cells.length = n) (h1 : v.cells.all V.one = true) (hg : h.get b = some (.cells z l)) (hs : setN l o v.cells = some l')
    (H : Q (.tup [], h.set b (.cells z l'))) : OB (op1 ro e h (.store n a x)) Q := by
  rw [op1_store ha hx hro hn h1 hg hs, OB_some]
  exact H

theorem Own.mono {lo lo' : Nat} {v : V} (ho : Own lo v) (hl : lo' ≤ lo) : Own lo' v := by
  rcases ho with rfl | ⟨b, o, n, rfl, hb⟩
  · exact .inl rfl
  · exact .inr ⟨b, o, n, rfl, by omega⟩

theorem Sl.set_ne {h : Hp} {lo sz n b : Nat} {v : V} {l : List V} (hv : Sl h sz v n l) (ho : Own lo v) (hb : b < lo) (x : Blk) : Sl (h.set b x) sz v n l := by
  rcases ho with rfl | ⟨b', o, k, rfl, hb'⟩
  · exact hv
  · refine ⟨hv.1, ?_⟩
    have h2 := hv.2
    unfold shown at h2 ⊢
    rw [Hp.get_set_ne (by omega)]
    exact h2

theorem Own.cells {lo : Nat} {v : V} (ho : Own lo v) : v.cells = [v] ∧ V.one v = true := by
  rcases ho with rfl | ⟨b, o, n, rfl, _⟩ <;> exact ⟨rfl, rfl⟩

theorem op1_app {sz bytes m c : Nat} {s x : A} {v v' : V} {b o : Nat} {news : List V} {h' : Hp} (hs : s.ev e = some v) (hx : x.ev e = some (.sl b o m c)) (hn : shown h sz b o m = some news) (h1 : news.all V.one = true) (ha : app ro h sz bytes v m news = some (v', h')) :
    op1 ro e h (.app sz bytes s x) = some (v', h') := by
  simp only [op1, hs, hx, Option.bind_some, hn, h1, if_true, ha]

theorem setN_zero {v : V} {x : V} : setN [x] 0 [v] = some [v] := rfl
end
end Go.Am
