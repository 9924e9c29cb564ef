/- All operations of the plain machine together: each is what the loaded program's operation comes to. -/
import Derived.Test.YtochmoadmdmcbaaDoorAm11
namespace Go.Am
open Go Go.RowKit
variable [Dr]
section
variable {P : Program} {B : Nat} {w0 w : World} {ro : Nat} {ρ : Nat → Pl} {e : Env} {h h' : Hp} {ev : Operand → Value} {v : V}

theorem sound_call1 (hc : Ctx P B w0 ro ρ e h ev w) {c : Call} {x : O} {fresh : Nat} (o : Oper) (ho : o.op = .call c) (ht : callOf P fresh c o.type = some x) (hx : ∀ fr f l, x ≠ .call fr f l)
    (H : op1 ro e h x = some (v, h')) : Out B w0 ro ρ h.nx v h' ((execOp ev o).run P w) := by
  unfold callOf at ht
  split at ht
  · simp only [Option.bind_eq_some_iff, Option.some.injEq] at ht
    obtain ⟨_, _, _, _, rfl⟩ := ht
    exact absurd rfl (hx _ _ _)
  · cases ht
  · rename_i b hcal
    split at ht
    · -- len
      rename_i x t r hargs hts
      simp only [Option.bind_eq_some_iff] at ht
      obtain ⟨a, ha, ht⟩ := ht
      split at ht <;> try (cases ht; done)
      · rename_i hu; cases ht; exact sound_lenS hc hcal hargs hts ha hu H o ho
      · rename_i hu; cases ht; exact sound_lenSl hc hcal hargs hts ha hu H o ho
      · rename_i hu; cases ht; exact sound_lenMp hc hcal hargs hts ha hu H o ho
      · rename_i hu; cases ht; exact sound_lenArr hc (.inl rfl) hcal hargs hts hu H o ho
    · -- cap
      rename_i x t r hargs hts
      simp only [Option.bind_eq_some_iff] at ht
      obtain ⟨a, ha, ht⟩ := ht
      split at ht <;> try (cases ht; done)
      · rename_i hu; cases ht; exact sound_capSl hc hcal hargs hts ha hu H o ho
      · rename_i hu; cases ht; exact sound_lenArr hc (.inr rfl) hcal hargs hts hu H o ho
    · -- append
      rename_i s x t u hargs hts
      simp only [Option.bind_eq_some_iff] at ht
      obtain ⟨a, ha, b, hb, ht⟩ := ht
      split at ht <;> try (cases ht; done)
      rename_i el hel
      simp only [Option.bind_eq_some_iff] at ht
      obtain ⟨sz, hsz, by_, hby, ht⟩ := ht
      split at ht
      case isFalse => cases ht
      rename_i hcnd
      obtain ⟨z, hz⟩ := Option.isSome_iff_exists.1 hcnd.2
      split at ht <;> try (cases ht; done)
      · rename_i el' hu; cases ht; exact sound_app hc hcal hargs hts ha hb hel hu hsz hby hz H o ho
      · rename_i hu
        obtain ⟨h12, ht'⟩ := ite_some ht
        subst ht'
        obtain ⟨rfl, rfl⟩ := h12
        exact sound_appStr hc hcal hargs hts ha hb hel hu hsz hby hz H o ho
    · -- copy
      rename_i s x t u hargs hts
      simp only [Option.bind_eq_some_iff] at ht
      obtain ⟨a, ha, b, hb, ht⟩ := ht
      split at ht <;> try (cases ht; done)
      rename_i el hel
      simp only [Option.bind_eq_some_iff] at ht
      obtain ⟨sz, hsz, ht⟩ := ht
      obtain ⟨_, rfl⟩ := ite_some ht
      exact sound_copy hc hcal hargs hts ha hb hel hsz H o ho
    · -- clear
      rename_i x t hargs hts
      simp only [Option.bind_eq_some_iff] at ht
      obtain ⟨a, ha, ht⟩ := ht
      split at ht <;> try (cases ht; done)
      rename_i el hel
      simp only [Option.bind_eq_some_iff, Option.some.injEq] at ht
      obtain ⟨sz, hsz, z, hz, rfl⟩ := ht
      exact sound_clr hc hcal hargs hts ha hel hz H o ho
    · simp only [Option.bind_eq_some_iff, Option.some.injEq] at ht
      obtain ⟨l, hl, rfl⟩ := ht
      exact sound_mx hc hcal hl H o ho
    · simp only [Option.bind_eq_some_iff, Option.some.injEq] at ht
      obtain ⟨l, hl, rfl⟩ := ht
      exact sound_mn hc hcal hl H o ho
    · cases ht

/-- EVERY OPERATION BUT A CALL. -/
theorem op1_sound (hc : Ctx P B w0 ro ρ e h ev w) {x : O} {fresh : Nat} (o : Oper) (ht : opOf P fresh o.type o.op = some x) (hx : ∀ fr f l, x ≠ .call fr f l)
    (H : op1 ro e h x = some (v, h')) : Out B w0 ro ρ h.nx v h' ((execOp ev o).run P w) := by
  cases hop : o.op <;> rw [hop] at ht <;> simp only [opOf, Option.bind_eq_some_iff, Option.some.injEq, reduceCtorEq] at ht
  case move x => obtain ⟨a, ha, rfl⟩ := ht; simp only [op1, Option.bind_eq_some_iff, Option.some.injEq, Prod.mk.injEq] at H; obtain ⟨_, hv, rfl, rfl⟩ := H; exact sound_mov hc ha hv o (.inl hop)
  case assign x => obtain ⟨a, ha, rfl⟩ := ht; simp only [op1, Option.bind_eq_some_iff, Option.some.injEq, Prod.mk.injEq] at H; obtain ⟨_, hv, rfl, rfl⟩ := H; exact sound_mov hc ha hv o (.inr hop)
  case pick c a b => obtain ⟨a1, ha1, a2, ha2, a3, ha3, rfl⟩ := ht; exact sound_pick hc ha1 ha2 ha3 H o hop
  case alloc t => obtain ⟨z, hz, rfl⟩ := ht; exact sound_alloc hc hz H o hop
  case box t x => obtain ⟨a, ha, n, hn, rfl⟩ := ht; exact sound_box hc ha H o hop
  case build t ps =>
    obtain ⟨z, hz, ht⟩ := ht
    split at ht
    · rename_i fs hfs
      split at ht
      case isFalse => cases ht
      rename_i hall
      simp only [Option.bind_eq_some_iff, Option.some.injEq] at ht
      obtain ⟨l, hl, rfl⟩ := ht
      exact sound_buildStruct hc hz hfs hl H o hop (fun f hf => by rw [List.all_eq_true] at hall; exact hall f (by simpa using hf))
    · rename_i n el hel
      simp only [Option.bind_eq_some_iff, Option.some.injEq] at ht
      obtain ⟨s, hs, l, hl, rfl⟩ := ht
      exact sound_buildArr hc hz hel hs hl H o hop
    · cases ht
  case buildSlice t n ps =>
    split at ht
    · rename_i el hel
      simp only [Option.bind_eq_some_iff] at ht
      obtain ⟨s, hs, z, hz, ht⟩ := ht
      split at ht
      case isFalse => cases ht
      rename_i hcnd
      simp only [Option.bind_eq_some_iff, Option.some.injEq] at ht
      obtain ⟨l, hl, rfl⟩ := ht
      exact sound_buildSl hc hel hs hz hcnd.1 hcnd.2 hl H o hop
    · cases ht
  case load t a => obtain ⟨n, hn, a', ha, rfl⟩ := ht; exact sound_load hc hn ha H o hop
  case store t a x => obtain ⟨n, hn, a', ha, b, hb, rfl⟩ := ht; exact sound_store hc ha hb hn H o hop
  case nilCheck x => obtain ⟨a, ha, rfl⟩ := ht; exact sound_nilc hc ha H o hop
  case binOp op t x y u =>
    obtain ⟨a, ha, b, hb, ht⟩ := ht
    split at ht
    · simp only [Option.bind_eq_some_iff, Option.some.injEq] at ht
      obtain ⟨q, hq, rfl⟩ := ht
      exact sound_eq (neg := false) hc hq ha hb H o hop
    · simp only [Option.bind_eq_some_iff, Option.some.injEq] at ht
      obtain ⟨q, hq, rfl⟩ := ht
      exact sound_eq (neg := true) hc hq ha hb H o hop
    · rename_i h1 h2
      simp only [Option.some.injEq] at ht
      subst ht
      exact sound_bin hc ⟨h1, h2⟩ ha hb H o hop
  case unOp op t x => obtain ⟨a, ha, rfl⟩ := ht; exact sound_un hc ha H o hop
  case convert s d x =>
    obtain ⟨a, ha, ht⟩ := ht
    split at ht
    · rename_i h1 h2; cases ht; exact sound_convInt hc ha h1 h2 H o hop
    · rename_i h1 h2; cases ht; exact sound_convStr hc ha h1 h2 H o hop
    · rename_i h1 h2
      split at ht
      · rename_i h3; cases ht; exact sound_convBytes hc ha h1 h2 h3 H o hop
      · cases ht
    · rename_i h1 h2
      split at ht
      case isFalse => cases ht
      rename_i hsd
      subst hsd
      rw [h2] at h1
      cases h1
      split at ht
      · rename_i h3; cases ht; exact sound_convSame hc ha h2 h3 H o hop
      · cases ht
    · rename_i h1 h2
      split at ht
      · rename_i h3; cases ht; exact sound_convOf hc ha h1 h2 h3 H o hop
      · cases ht
    · cases ht
  case makeInterface t x =>
    obtain ⟨a, ha, ht⟩ := ht
    split at ht
    · cases ht
    · rename_i d hni hd
      cases ht
      refine sound_mkIfc hc ha ?_ H o hop
      rw [hd]
      cases d <;> first | trivial | exact absurd rfl (hni _)
    · cases ht
  case makeFunc f a b => obtain ⟨a', ha, b', hb, rfl⟩ := ht; exact sound_mkFn hc ha hb H o hop
  case makeMap t r =>
    cases r with
    | none => simp only [Option.some.injEq] at ht; subst ht; exact sound_mkMap hc H o hop
    | some r => simp at ht
  case makeSlice t l c =>
    obtain ⟨a, ha, b, hb, ht⟩ := ht
    split at ht
    · rename_i el hel
      simp only [Option.bind_eq_some_iff] at ht
      obtain ⟨s, hs, by_, hby, z, hz, ht⟩ := ht
      obtain ⟨_, rfl⟩ := ite_some ht
      exact sound_mkSl hc ha hb hel hs hby hz H o hop
    · cases ht
  case slice t x lo hi mx =>
    split at ht
    · cases ht
    · rename_i hmh
      have hmh' : (mx.isSome && !hi.isSome) = false := by
        cases h1 : (mx.isSome && !hi.isSome) with
        | false => rfl
        | true => exact absurd h1 hmh
      simp only [Option.bind_eq_some_iff] at ht
      obtain ⟨a, ha, lo', hlo, hi', hhi, mx', hmx, ht⟩ := ht
      split at ht
      · rename_i hu
        cases mx with
        | some m =>
          simp only [opdO, Option.bind_eq_some_iff, Option.some.injEq] at hmx
          obtain ⟨_, _, rfl⟩ := hmx
          cases ht
        | none =>
          simp only [opdO, Option.some.injEq] at hmx
          subst hmx
          cases ht
          exact sound_slStr hc ha hlo hhi hu H o hop
      · rename_i el hu
        simp only [Option.bind_eq_some_iff, Option.some.injEq] at ht
        obtain ⟨s, hs, rfl⟩ := ht
        exact sound_slSl hc ha hlo hhi hmx hu hs hmh' H o hop
      · rename_i n el hu
        simp only [Option.bind_eq_some_iff] at ht
        obtain ⟨s, hs, ht⟩ := ht
        obtain ⟨_, rfl⟩ := ite_some ht
        exact sound_slArr hc ha hlo hhi hmx hu hs hmh' H o hop
      · cases ht
  case fieldAddr t x i =>
    obtain ⟨a, ha, f, hf, s, hs, ht⟩ := ht
    obtain ⟨h0, rfl⟩ := ite_some ht
    exact sound_fldA hc ha hf hs h0 H o hop
  case field t x i => obtain ⟨a, ha, f, hf, n, hn, rfl⟩ := ht; exact sound_fld hc ha hf hn H o hop
  case indexAddr t x i =>
    obtain ⟨a, ha, b, hb, ht⟩ := ht
    split at ht
    · rename_i el hel
      simp only [Option.bind_eq_some_iff, Option.some.injEq] at ht
      obtain ⟨s, hs, rfl⟩ := ht
      exact sound_idxA hc ha hb hel hs H o hop
    · rename_i n el hel
      simp only [Option.bind_eq_some_iff, Option.some.injEq] at ht
      obtain ⟨s, hs, rfl⟩ := ht
      exact sound_idxArrA hc ha hb hel hs H o hop
    · cases ht
  case index t x i =>
    obtain ⟨a, ha, b, hb, ht⟩ := ht
    split at ht
    · rename_i hel; cases ht; exact sound_idxStr hc ha hb hel H o hop
    · rename_i n el hel
      simp only [Option.bind_eq_some_iff, Option.some.injEq] at ht
      obtain ⟨s, hs, m, hm, rfl⟩ := ht
      exact sound_idxArr hc ha hb hel hs hm H o hop
    · cases ht
  case lookup t x k ok =>
    obtain ⟨a, ha, b, hb, ht⟩ := ht
    split at ht
    · rename_i kt el hel
      simp only [Option.bind_eq_some_iff, Option.some.injEq] at ht
      obtain ⟨q, hq, z, hz, rfl⟩ := ht
      exact sound_lookup hc ha hb hel hq hz H o hop
    · cases ht
  case mapUpdate t m k y =>
    obtain ⟨a, ha, b, hb, c, hcc, ht⟩ := ht
    split at ht
    · rename_i kt el hel
      simp only [Option.bind_eq_some_iff, Option.some.injEq] at ht
      obtain ⟨q, hq, rfl⟩ := ht
      exact sound_upd hc ha hb hcc hel hq H o (.inl hop)
    · cases ht
  case insert t m k y =>
    obtain ⟨a, ha, b, hb, c, hcc, ht⟩ := ht
    split at ht
    · rename_i kt el hel
      simp only [Option.bind_eq_some_iff, Option.some.injEq] at ht
      obtain ⟨q, hq, rfl⟩ := ht
      exact sound_upd hc ha hb hcc hel hq H o (.inr hop)
    · cases ht
  case extract x i => obtain ⟨a, ha, rfl⟩ := ht; exact sound_ext hc ha H o hop
  case call c => exact sound_call1 hc o hop ht hx H
end
end Go.Am
