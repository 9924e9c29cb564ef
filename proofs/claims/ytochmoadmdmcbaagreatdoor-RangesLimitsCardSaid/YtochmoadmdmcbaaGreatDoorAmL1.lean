/- Answers that stand for functions of the library: those of strings and strconv that answer with plain values, and strings.Split. -/
import Derived.Test.YtochmoadmdmcbaaGreatDoorAm21
import Derived.Lib.Join
import Derived.Lib.ItoaNum
import Derived.Lib.Atoi
import Derived.Lib.Split
import Derived.Lib.SplitLaws
import Derived.Lib.SlTrimSet
import Derived.Lib.LaidTab
namespace Go.Am
set_option linter.unusedSimpArgs false
set_option linter.unusedVariables false
open Go Go.RowKit

/-- A function of the library that answers with plain values. -/
def orcPure (g : List V → Option V) (_ : Nat) (args : List V) (h : Hp) : Option (V × Hp) := (g args).bind fun v => some (v, h)

theorem orcPure_ok [Dr] {P : Program} {f : Nat} {g : List V → Option V} (hoff : Dr.on = false) (he : Enters P f)
    (hc : ∀ {args v}, g args = some v → ∀ {ρ nx args' w B}, GlOk B w → VRs ρ nx args args' → Calls P f args'.toArray w fun e w' => ∃ u, e = .returned u ∧ VR ρ nx v u ∧ Below w.heap.size w w') : OrcOk P f (orcPure g) where
  enters := he
  ext := fun {ro args h r h'} H => by
    simp only [orcPure, Option.bind_eq_some_iff, Option.some.injEq, Prod.mk.injEq] at H
    obtain ⟨_, _, _, rfl⟩ := H
    exact Ext.refl _ _
  calls := fun {ro args h r h'} H {B w0 ρ w args'} hg hr ha => by
    simp only [orcPure, Option.bind_eq_some_iff, Option.some.injEq, Prod.mk.injEq] at H
    obtain ⟨v, hv, rfl, rfl⟩ := H
    refine (hc hv hr.ok ha).mono fun e w' ⟨u, he, hu, hb⟩ => ?_
    exact ⟨u, ρ, he, fun _ _ => rfl, Nat.le_refl _, hu, hr.same (.of hb fun q => by rw [hoff] at q; cases q)⟩

theorem ba_size (s : List UInt8) : (⟨s.toArray⟩ : ByteArray).size = s.length := by simp [ByteArray.size]

theorem args1 {ρ : Nat → Pl} {nx : Nat} {v : V} {us : List Value} (h : VRs ρ nx [v] us) : ∃ u, us = [u] ∧ VR ρ nx v u := by
  simp only [VRs] at h
  obtain ⟨u, us', rfl, h1, rfl⟩ := h
  exact ⟨u, rfl, h1⟩
theorem args2 {ρ : Nat → Pl} {nx : Nat} {v v' : V} {us : List Value} (h : VRs ρ nx [v, v'] us) : ∃ u u', us = [u, u'] ∧ VR ρ nx v u ∧ VR ρ nx v' u' := by
  simp only [VRs] at h
  obtain ⟨u, us', rfl, h1, u', us'', rfl, h2, rfl⟩ := h
  exact ⟨u, u', rfl, h1, h2⟩

def gItoa : List V → Option V
  | [.int .i64 n] => if -9223372036854775808 ≤ n ∧ n ≤ 9223372036854775807 then some (.str (Lib.itoa n)) else none
  | _ => none
theorem itoa_ok [Dr] {P : Program} {f : Nat} (hoff : Dr.on = false) (he : Enters P f)
    (hc : ∀ (n : Int), -9223372036854775808 ≤ n → n ≤ 9223372036854775807 → ∀ (B : Nat) (w : World), GlOk B w → Calls P f #[.int .i64 n] w fun e w' => e = .returned (.string ⟨(Lib.itoa n).toArray⟩) ∧ Below w.heap.size w w') : OrcOk P f (orcPure gItoa) :=
  orcPure_ok hoff he fun {args v} H {ρ nx args' w B} hg ha => by
    unfold gItoa at H
    split at H
    · split at H
      · rename_i n hn
        simp only [Option.some.injEq] at H
        subst H
        obtain ⟨u, rfl, hu⟩ := args1 ha
        simp only [VR] at hu
        subst hu
        exact (hc n hn.1 hn.2 B w hg).mono fun e w' ⟨h1, h2⟩ => ⟨_, h1, rfl, h2⟩
      · cases H
    · cases H

def gAtoi : List V → Option V
  | [.str s] => if s.length ≤ 18 then (Lib.atoi s).bind fun n => some (.tup [.int .i64 n, .nifc]) else none
  | _ => none
theorem atoi_ok [Dr] {P : Program} {f : Nat} (hoff : Dr.on = false) (he : Enters P f)
    (hc : ∀ (s : ByteArray) (n : Int), s.size ≤ 18 → Lib.atoi s.data.toList = some n → ∀ (w : World), Calls P f #[.string s] w fun e w' => e = .returned (.tuple #[.int .i64 n, .nilIface]) ∧ Below w.heap.size w w') : OrcOk P f (orcPure gAtoi) :=
  orcPure_ok hoff he fun {args v} H {ρ nx args' w B} hg ha => by
    unfold gAtoi at H
    split at H
    · split at H
      · rename_i s hn
        simp only [Option.bind_eq_some_iff, Option.some.injEq] at H
        obtain ⟨n, h1, rfl⟩ := H
        obtain ⟨u, rfl, hu⟩ := args1 ha
        simp only [VR] at hu
        subst hu
        refine (hc ⟨s.toArray⟩ n (by rw [ba_size]; exact hn) (by simpa using h1) w).mono fun e w' ⟨h1, h2⟩ => ⟨_, h1, ?_, h2⟩
        simp only [VR]
        exact ⟨_, rfl, _, _, rfl, rfl, _, _, rfl, rfl, rfl⟩
      · cases H
    · cases H

def gCut : List V → Option V
  | [.str s, .str sep] => if s.length < 4294967281 then some (.tup [.str (Lib.cut s sep).1, .str (Lib.cut s sep).2.1, .bool (Lib.cut s sep).2.2]) else none
  | _ => none
theorem cut_ok [Dr] {P : Program} {f : Nat} (hoff : Dr.on = false) (he : Enters P f)
    (hc : ∀ (s sep : ByteArray), s.size < 4294967281 → ∀ (B : Nat) (w : World), GlOk B w → Calls P f #[.string s, .string sep] w fun e w' => e = .returned (.tuple #[.string ⟨(Lib.cut s.data.toList sep.data.toList).1.toArray⟩, .string ⟨(Lib.cut s.data.toList sep.data.toList).2.1.toArray⟩, .bool (Lib.cut s.data.toList sep.data.toList).2.2]) ∧ Below w.heap.size w w') : OrcOk P f (orcPure gCut) :=
  orcPure_ok hoff he fun {args v} H {ρ nx args' w B} hg ha => by
    unfold gCut at H
    split at H
    · split at H
      · rename_i s sep hn
        simp only [Option.some.injEq] at H
        subst H
        obtain ⟨u, u', rfl, hu, hu'⟩ := args2 ha
        simp only [VR] at hu hu'
        subst hu hu'
        refine (hc ⟨s.toArray⟩ ⟨sep.toArray⟩ (by rw [ba_size]; exact hn) B w hg).mono fun e w' ⟨h1, h2⟩ => ⟨_, h1, ?_, h2⟩
        simp only [VR]
        exact ⟨_, rfl, _, _, rfl, rfl, _, _, rfl, rfl, _, _, rfl, rfl, rfl⟩
      · cases H
    · cases H

def gTrim : List V → Option V
  | [.str s, .str cs] => if s.length ≤ 9223372036854775807 ∧ cs.length < 4294967281 ∧ cs.all (fun b => decide (b.toNat < 128)) = true then some (.str (Lib.trimS s cs)) else none
  | _ => none
theorem trim_ok [Dr] {P : Program} {f : Nat} (hoff : Dr.on = false) (he : Enters P f)
    (hc : ∀ (s cs : ByteArray) (w : World), s.size ≤ 9223372036854775807 → cs.size < 4294967281 → (∀ (j : Nat) b, cs.data.toList[j]? = some b → b.toNat < 128) → Calls P f #[.string s, .string cs] w fun e w' => e = .returned (.string ⟨(Lib.trimS s.data.toList cs.data.toList).toArray⟩) ∧ Below w.heap.size w w') : OrcOk P f (orcPure gTrim) :=
  orcPure_ok hoff he fun {args v} H {ρ nx args' w B} hg ha => by
    unfold gTrim at H
    split at H
    · split at H
      · rename_i s cs hn
        simp only [Option.some.injEq] at H
        subst H
        obtain ⟨u, u', rfl, hu, hu'⟩ := args2 ha
        simp only [VR] at hu hu'
        subst hu hu'
        refine (hc ⟨s.toArray⟩ ⟨cs.toArray⟩ w (by rw [ba_size]; exact hn.1) (by rw [ba_size]; exact hn.2.1) (fun j b hj => by
          have := List.all_eq_true.1 hn.2.2 b (List.mem_of_getElem? (by simpa using hj))
          simpa using this)).mono fun e w' ⟨h1, h2⟩ => ⟨_, h1, ?_, h2⟩
        simp only [VR]
      · cases H
    · cases H

def orcSplit (_ : Nat) (args : List V) (h : Hp) : Option (V × Hp) :=
  match args with
  | [.str s, .str sep] => if s.length < 4294967281 ∧ 1 ≤ sep.length then some (.sl h.nx 0 (Lib.split s sep).length 0, h.new (.cells 1 ((Lib.split s sep).map V.str))) else none
  | _ => none
theorem strs_rel {ρ : Nat → Pl} {nx : Nat} : ∀ l : List (List UInt8), VRs ρ nx (l.map V.str) (l.map fun s => Value.string ⟨s.toArray⟩)
  | [] => rfl
  | s :: r => by
    simp only [List.map_cons, VRs, VR]
    exact ⟨_, _, rfl, rfl, strs_rel r⟩
theorem split_ok [Dr] {P : Program} {f : Nat} {T : TypeId} (he : Enters P f)
    (hc : ∀ (s sep : ByteArray), s.size < 4294967281 → 1 ≤ sep.size → ∀ (B : Nat) (w : World), GlOk B w → Calls P f #[.string s, .string sep] w fun e w' =>
      e = .returned (.slice (some ⟨w.heap.size, 0, none⟩) (Lib.countB s sep + 1) (Lib.countB s sep + 1)) ∧ w' = w.alloc (.cells ((Lib.splitB sep 0 (Lib.countB s sep) s).map Value.string).toArray T)) : OrcOk P f orcSplit where
  enters := he
  ext := fun {ro args h r h'} H => by
    unfold orcSplit at H
    split at H
    · split at H
      · simp only [Option.some.injEq, Prod.mk.injEq] at H
        obtain ⟨_, rfl⟩ := H
        exact Ext.new _ _ _
      · cases H
    · cases H
  calls := fun {ro args h r h'} H {B w0 ρ w args'} hg hr ha => by
    unfold orcSplit at H
    split at H
    · split at H
      · rename_i s sep hn
        simp only [Option.some.injEq, Prod.mk.injEq] at H
        obtain ⟨rfl, rfl⟩ := H
        obtain ⟨u, u', rfl, hu, hu'⟩ := args2 ha
        simp only [VR] at hu hu'
        subst hu hu'
        refine (hc ⟨s.toArray⟩ ⟨sep.toArray⟩ (by rw [ba_size]; exact hn.1) (by rw [ba_size]; exact hn.2) B w hr.ok).mono fun e w' ⟨h1, h2⟩ => ?_
        subst h2
        have hd := Lib.splitB_data ⟨sep.toArray⟩ 0 (Lib.countB ⟨s.toArray⟩ ⟨sep.toArray⟩) ⟨s.toArray⟩
        have hcnt : Lib.countB ⟨s.toArray⟩ ⟨sep.toArray⟩ = Lib.count s sep := rfl
        have hlen := Lib.splitB_all ⟨sep.toArray⟩ (by rw [ba_size]; exact hn.2) 0 (Lib.countB ⟨s.toArray⟩ ⟨sep.toArray⟩) ⟨s.toArray⟩ rfl
        have hsp : Lib.split s sep = (Lib.splitB ⟨sep.toArray⟩ 0 (Lib.countB ⟨s.toArray⟩ ⟨sep.toArray⟩) ⟨s.toArray⟩).map (·.data.toList) := by
          rw [hd, hcnt]
          rfl
        have hcells : ((Lib.splitB ⟨sep.toArray⟩ 0 (Lib.countB ⟨s.toArray⟩ ⟨sep.toArray⟩) ⟨s.toArray⟩).map Value.string) = (Lib.split s sep).map fun s => Value.string ⟨s.toArray⟩ := by
          rw [hsp, List.map_map]
          refine List.map_congr_left fun a _ => ?_
          exact congrArg Value.string (Lib.mk_data a).symm
        have hl : (Lib.split s sep).length = Lib.countB ⟨s.toArray⟩ ⟨sep.toArray⟩ + 1 := by rw [hsp, List.length_map, hlen]
        rw [hcells] at *
        have hrow := hr.row (arr := ((Lib.split s sep).map fun s => Value.string ⟨s.toArray⟩).toArray) (us := (Lib.split s sep).map fun s => Value.string ⟨s.toArray⟩) (rest := []) (l := (Lib.split s sep).map V.str) (by simp) (strs_rel _) 1 T 0 0 (.inl rfl)
        refine ⟨_, _, h1, fun b hb => upd_lt b hb, Nat.le_succ _, ?_, hrow⟩
        simp only [VR]
        exact ⟨Nat.lt_succ_self _, _, by rw [upd_same, hl], by omega, by simp, by rw [upd_same]; simp [hl]⟩
      · cases H
    · cases H
end Go.Am
