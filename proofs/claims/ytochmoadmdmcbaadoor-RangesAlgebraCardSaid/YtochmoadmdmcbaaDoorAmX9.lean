/- The program's functions, stepped through in the plain machine. -/
import Derived.Test.YtochmoadmdmcbaaDoorAmX6
namespace Go.Am.S7
open Go
set_option maxRecDepth 100000

theorem any_set {l : List (Int × Int)} {q x : Int × Int} (f : Int × Int → Bool) : ((l ++ [q]).set l.length x).any f = (l.any f || f x) := by
  simp

/-- The elements of the ranges are the places that differ. -/
theorem has_chg (a b : List Int) (i : Nat) : ∀ n, (mrgs (chs a b n)).any (hasP i) = (decide (i < n) && chg a b i) ∧ (∀ p ∈ mrgs (chs a b n), 0 ≤ p.1 ∧ p.1 ≤ p.2)
  | 0 => by simp [chs, mrgs]
  | n + 1 => by
    obtain ⟨ih, ih2⟩ := has_chg a b i n
    have hle := chs_le a b n
    unfold chs
    cases hc : chg a b n with
    | false =>
      simp only [Bool.false_eq_true, if_false]
      refine ⟨?_, ih2⟩
      rw [ih]
      by_cases h : i < n
      · have : i < n + 1 := by omega
        simp [h, this]
      · by_cases h2 : i = n
        · subst h2; simp [hc]
        · have : ¬ i < n + 1 := by omega
          simp [h, this]
    | true =>
      simp only [if_true]
      rw [mrgs_snoc]
      generalize mrgs (chs a b n) = out at *
      have hone : hasP i ((n : Int), (n : Int) + 1) = decide (i = n) := by
        unfold hasP
        by_cases h : i = n
        · subst h; simp; omega
        · by_cases h2 : i < n
          · have : ¬ ((n : Int) ≤ i) := by omega
            simp [h, this]
          · have : ¬ ((i : Int) < n + 1) := by omega
            simp [h, this]
      have hall : (decide (i < n + 1) && chg a b i) = ((decide (i < n) && chg a b i) || decide (i = n)) := by
        by_cases h : i = n
        · subst h; simp [hc]
        · by_cases h2 : i < n
          · have : i < n + 1 := by omega
            simp [h, h2, this]
          · have : ¬ i < n + 1 := by omega
            simp [h, h2, this]
      rcases List.eq_nil_or_concat out with rfl | ⟨init, q, rfl⟩
      · have hm : mrg [] ((n : Int), (n : Int) + 1) = [((n : Int), (n : Int) + 1)] := by simp [mrg]; omega
        rw [hm, hall, ← ih]
        refine ⟨by simp [hone], fun p hp => ?_⟩
        simp at hp; subst hp; simp; omega
      · rw [List.concat_eq_append] at *
        have hqi := hle q (by simp)
        have hq2 := ih2 q (by simp)
        by_cases he : q.2 = n
        · have hm : mrg (init ++ [q]) ((n : Int), (n : Int) + 1) = (init ++ [q]).set init.length (q.1, (n : Int) + 1) := by
            have : (n : Int) < n + 1 := by omega
            simp [mrg, he, this]
            omega
          rw [hm, any_set, hall, ← ih, List.any_append]
          have hj : hasP i (q.1, (n : Int) + 1) = (hasP i q || decide (i = n)) := by
            unfold hasP
            by_cases h : i = n
            · subst h
              have : q.1 ≤ (i : Int) := by omega
              simp [this]; omega
            · have e1 : (decide ((i : Int) < (n : Int) + 1)) = decide ((i : Int) < q.2) := by
                by_cases h2 : (i : Int) < q.2
                · have : (i : Int) < (n : Int) + 1 := by omega
                  rw [decide_eq_true h2, decide_eq_true this]
                · have : ¬ (i : Int) < (n : Int) + 1 := by omega
                  rw [decide_eq_false h2, decide_eq_false this]
              simp [h, e1]
          refine ⟨by rw [hj]; simp [Bool.or_assoc], fun p hp => ?_⟩
          rcases List.mem_or_eq_of_mem_set hp with h | h
          · exact ih2 p h
          · subst h; simp; omega
        · have hm : mrg (init ++ [q]) ((n : Int), (n : Int) + 1) = (init ++ [q]) ++ [((n : Int), (n : Int) + 1)] := by
            have h1 : ¬ ((n : Int) ≤ q.2) := by omega
            have : (n : Int) < n + 1 := by omega
            simp [mrg, h1, this]
          rw [hm, List.any_append, hall, ← ih]
          refine ⟨by simp [hone], fun p hp => ?_⟩
          rcases List.mem_append.1 hp with h | h
          · exact ih2 p h
          · simp at h; subst h; simp; omega
end Go.Am.S7
/- The program's functions, stepped through in the plain machine. -/
namespace Go.Am.S7
open Go
set_option maxRecDepth 100000
variable {fs : Nat → Option D} {ro : Nat} {e : Env} {h : Hp}

def Shape (v : V) : Prop := v = .nsl ∨ v = .esl ∨ ∃ b o n, v = .sl b o n 0

theorem slice300 {v : V} {l : List Int} {x y : A} (hv : SlI h v l) (hs : Shape v) (hx : x.ev e = some v) (hy : y.ev e = some (.int .i64 (if 300 < l.length then 300 else (l.length : Int)))) :
    ∃ v', op1 ro e h (.slSl 1 x none (some y) none) = some (v', h) ∧ SlI h v' (l.take 300) := by
  rcases hs with rfl | rfl | ⟨b, o, n, rfl⟩
  · obtain ⟨h1, _⟩ := hv
    have hl : l = [] := List.eq_nil_of_length_eq_zero h1
    subst hl
    exact ⟨.nsl, by simp [op1, hx, hy, bound], ⟨rfl, rfl⟩⟩
  · obtain ⟨h1, _⟩ := hv
    have hl : l = [] := List.eq_nil_of_length_eq_zero h1
    subst hl
    exact ⟨.esl, by simp [op1, hx, hy, bound], ⟨rfl, rfl⟩⟩
  · obtain ⟨rfl, hsh⟩ := hv
    obtain ⟨L, hg, hle, hL⟩ := shown_spec hsh
    have hz : zIs h b 1 = true := by simp [zIs, hg]
    have hlen : (l.take 300).length = if 300 < l.length then 300 else l.length := by rw [List.length_take]; split <;> omega
    by_cases h0 : 0 < l.length
    · refine ⟨.sl b o (l.take 300).length 0, ?_, ⟨rfl, ?_⟩⟩
      · simp only [op1, hx, hy, evO, hz, Option.bind_some, if_true, bound]
        rw [hlen]
        split
        · rename_i h1
          simp
          rw [if_pos (by omega)]; rfl
        · rename_i h1
          simp
      · rw [shown_mk hg (by rw [List.length_take]; omega), intsV, List.map_take]
        have e2 : List.map (V.int IntKind.u8) l = (L.drop o).take (l.length * 1) := hL
        rw [e2, List.take_take]
        simp
    · have hl : l = [] := List.eq_nil_of_length_eq_zero (by omega)
      subst hl
      refine ⟨.esl, ?_, ⟨rfl, rfl⟩⟩
      simp [op1, hx, hy, evO, hz, bound]

def strOf (l : List Int) : List UInt8 := l.map fun n => UInt8.ofNat n.toNat

theorem bytesOf_ints : ∀ l : List Int, bytesOf (intsV .u8 l) = some (strOf l)
  | [] => rfl
  | n :: r => by
    have := bytesOf_ints r
    simp only [intsV, strOf] at this ⊢
    simp [bytesOf, this]

theorem ofBytes {v : V} {l : List Int} {x : A} (hv : SlI h v l) (hx : x.ev e = some v) : op1 ro e h (.conv .ofBytes x) = some (.str (strOf l), h) := by
  cases v <;> simp only [SlI, Sl] at hv
  case nsl =>
    have hl : l = [] := List.eq_nil_of_length_eq_zero hv.1
    subst hl
    simp [op1, hx, strOf]
  case esl =>
    have hl : l = [] := List.eq_nil_of_length_eq_zero hv.1
    subst hl
    simp [op1, hx, strOf]
  case sl b o n c =>
    obtain ⟨rfl, hsh⟩ := hv
    simp [op1, hx, hsh, bytesOf_ints]

/-- known, as an answer that stands for itself. -/
def orcKnown (_ : Nat) (args : List V) (h : Hp) : Option (V × Hp) :=
  match args with
  | [] => some (.bool true, h)
  | _ => none

theorem fine_chs (a b : List Int) (n : Nat) (hn : n ≤ 1000000) : Fine (mrgs (chs a b n)) := fun p hp => by
  have h1 := (has_chg a b 0 n).2 p hp
  have h2 := chs_le a b n p hp
  exact ⟨h1.1, h1.2, by omega⟩

theorem app_byte {h0 h2 : Hp} {out : List Int} {x : Int} {vo : V} (hw0 : ∀ b x, h0.get b = some x → b < h0.nx) (hro : ro ≤ h0.nx) (hfr : Fr h0 h2) (hvo : SlI h2 vo out) (hown : Own h0.nx vo) (hlen : out.length ≤ 1000000) :
    ∃ v' h', app ro (h2.new (.cells 1 [V.int .u8 x])) 1 1 vo 1 [V.int .u8 x] = some (v', h') ∧ SlI h' v' (out ++ [x]) ∧ Own h0.nx v' ∧ Fr h0 h' ∧
      shown (h2.new (.cells 1 [V.int .u8 x])) 1 h2.nx 0 1 = some [V.int .u8 x] := by
  have hfr3 : Fr h0 (h2.new (.cells 1 [V.int .u8 x])) := hfr.new _
  have hvo3 : SlI (h2.new (.cells 1 [V.int .u8 x])) vo out := Sl.fr ((Fr.refl hfr.wf).new _) hvo
  obtain ⟨v', h', ha, hs, ho, hf⟩ := app_sl (bytes := 1) (m := 1) (news := [V.int .u8 x]) hfr3 hw0 hro hvo3 hown (by omega) rfl (by unfold roomMax; omega) (by unfold roomMax; omega)
  refine ⟨v', h', ha, ?_, ho, hf, ?_⟩
  · unfold SlI
    rw [intsV, List.map_append, List.length_append]
    exact hs
  · exact (Sl.ofNew (h := h2) (sz := 1) (n := 1) (c := 2) (l := [V.int .u8 x]) rfl).2
end Go.Am.S7
