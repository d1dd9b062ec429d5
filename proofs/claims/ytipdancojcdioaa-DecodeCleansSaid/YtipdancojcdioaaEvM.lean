/- Code, functions: what the evaluator comes to, the loaded program comes to. -/
import Derived.Test.YtipdancojcdioaaEvLb
namespace Go.Ev
set_option linter.unusedVariables false
set_option linter.unusedSimpArgs false
open Go

section
variable {P : Program} {a : Act} {o : Oper} {j : JM} {H H' : Heap} {w : World} {e : Env} {v : AV} {callF : CallF}

theorem op_sound {p : AOp} (hc : cOp P o.op = some p) (hw : WR j H w) (hE : ER j e a.tmps) (hr : p.run callF e H = some (v, H')) :
    Does P a o j H w v H' ∨ ∃ f vs l, callF f vs H = some (v, H') ∧ VRs j vs l ∧ (execOp a.eval o).run P w = (callFunc f l.toArray).run P w := by
  cases ho : o.op <;> rw [ho] at hc
  case move x => exact .inl (does_move (.inl ho) hc hw hE hr)
  case assign x => exact .inl (does_move (.inr ho) hc hw hE hr)
  case pick c x y => exact .inl (does_pick ho hc hw hE hr)
  case unOp op t x => exact .inl (does_un ho hc hw hE hr)
  case binOp op t x y t' => exact .inl (does_bin ho hc hw hE hr)
  case convert s d x => exact .inl (does_conv ho hc hw hE hr)
  case nilCheck x => exact .inl (does_nilck ho hc hw hE hr)
  case fieldAddr s x f => exact .inl (does_faddr ho hc hw hE hr)
  case indexAddr t x i => exact .inl (does_iaddr ho hc hw hE hr)
  case field s x f => exact .inl (does_field ho hc hw hE hr)
  case index t x i => exact .inl (does_index ho hc hw hE hr)
  case load t x => exact .inl (does_load ho hc hw hE hr)
  case store t x y => exact .inl (does_store ho hc hw hE hr)
  case alloc t => exact .inl (does_alloc ho hc hw hr)
  case box t x => exact .inl (does_box ho hc hw hE hr)
  case build t ps => exact .inl (does_build ho hc hw hE hr)
  case buildSlice t n ps => exact .inl (does_buildSl ho hc hw hE hr)
  case makeSlice t l c => exact .inl (does_mkSl ho hc hw hE hr)
  case slice t x lo hi mx => exact .inl (does_slice ho hc hw hE hr)
  case extract x k => exact .inl (does_extract ho hc hw hE hr)
  case makeFunc fn first captured =>
    cases fn
    case func f => exact .inl (does_mkfn ho hc hw hE hr)
    all_goals simp [cOp] at hc
  case call c =>
    simp only [cOp, cCall] at hc
    split at hc
    · -- a function by its name
      rename_i f hcal
      simp only [Option.map_eq_some_iff] at hc
      obtain ⟨xs, hxs, rfl⟩ := hc
      simp only [AOp.run] at hr
      split at hr
      · rename_i vs hvs
        refine .inr ⟨f, vs, _, hr, opds_sound hE hxs hvs, ?_⟩
        simp only [execOp, ho, resolve, hcal, Act.eval, Deferred.ofValue, invoke, Sem.run_bind, Sem.run_pure, Result.andThen_ok]
        congr 2
        simp [← Array.toList_map]
      · simp at hr
    · rename_i t hcal
      simp only [Option.map_eq_some_iff] at hc
      obtain ⟨xs, hxs, rfl⟩ := hc
      obtain ⟨u, hu, h1⟩ := on1_some hr
      have hf : VR j u (a.eval (.tmp t)) := opd_sound hE (x := .tmp t) rfl hu
      cases u <;> (try simp at h1; done)
      rename_i f first captured
      simp only at h1
      split at h1
      · rename_i vs hvs
        obtain ⟨l, m, he, hl, hm⟩ := hf
        refine .inr ⟨f, _, l ++ (c.args.toList.map a.eval) ++ m, h1, VRs.append (VRs.append hl (opds_sound hE hxs hvs)) hm, ?_⟩
        simp only [execOp, ho, resolve, hcal, he, Deferred.ofValue, invoke, Sem.run_bind, Sem.run_pure, Result.andThen_ok]
        congr 2
        simp [← Array.toList_map]
      · simp at h1
    · simp at hc
    · simp at hc
    · rename_i b hcal
      left
      split at hc
      · rename_i x t hargs hat
        exact does_len ho hcal hargs hat hc hw hE hr
      · rename_i x y t u hargs hat
        split at hc
        · rename_i el q xa ya hel hu hx hy
          simp only [Option.bind_eq_some_iff] at hc
          obtain ⟨s, hs, z, hz, hc⟩ := hc
          obtain ⟨⟨h0, h0z, hzv⟩, hc⟩ := if_some hc
          exact does_append ho hcal hargs hat hel (.inl ⟨_, hu⟩) hs hz h0 h0z hzv hx hy (Option.some.inj hc).symm hw hE hr
        · rename_i el xa ya hel hu hx hy
          simp only [Option.bind_eq_some_iff] at hc
          obtain ⟨s, hs, z, hz, hc⟩ := hc
          obtain ⟨⟨h0, h0z, hzv⟩, hc⟩ := if_some hc
          exact does_append ho hcal hargs hat hel (.inr hu) hs hz h0 h0z hzv hx hy (Option.some.inj hc).symm hw hE hr
        · simp at hc
      · rename_i x y t u hargs hat
        split at hc
        · rename_i el xa ya hel hx hy
          simp only [Option.bind_eq_some_iff] at hc
          obtain ⟨s, hs, hc⟩ := hc
          obtain ⟨h0, hc⟩ := if_some hc
          exact does_copy ho hcal hargs hat hel hs hx hy (Option.some.inj hc).symm hw hE hr
        · simp at hc
      · simp only [Option.map_eq_some_iff] at hc
        obtain ⟨xs, hxs, rfl⟩ := hc
        exact does_minmax (mx := false) ho (by simpa using hcal) hxs rfl hw hE hr
      · simp only [Option.map_eq_some_iff] at hc
        obtain ⟨xs, hxs, rfl⟩ := hc
        exact does_minmax (mx := true) ho (by simpa using hcal) hxs rfl hw hE hr
      · simp at hc
  all_goals simp [cOp] at hc

/-- what a call of the evaluator's says of the loaded function -/
def FnPost (j : JM) (H : Heap) (w : World) (v : AV) (H' : Heap) (en : Ending) (w' : World) : Prop :=
  ∃ j' c, Trans j H w j' H' w' ∧ VR j' v c ∧ en = .returned c

def CallOk (P : Program) (callF : CallF) : Prop := ∀ f vs H v H', callF f vs H = some (v, H') → ∀ j w l, WR j H w → VRs j vs l →
  (∀ w, (callFunc f l.toArray).run P w = .ok (.enter f l.toArray) w) ∧ Calls P f l.toArray w (FnPost j H w v H')

/-- the state after an instruction -/
structure St (j : JM) (nt : Nat) (e : Env) (a : Act) : Prop where
  er : ER j e a.tmps
  size : nt ≤ a.tmps.size
  defers : a.defers = []

theorem St.put {nt : Nat} {dst : Option Nat} {c : Value} (hs : St j nt e a) (hd : (match dst with | some d => decide (d < nt) | none => true) = true) (hv : VR j v c) : St j nt (putE e dst v) (a.put dst c) := by
  cases dst with
  | none => exact hs
  | some d =>
    simp only [decide_eq_true_eq] at hd
    have hsz := hs.size
    refine ⟨fun t u hu => ?_, by simpa [Act.put] using hs.size, hs.defers⟩
    rw [lk_put] at hu
    simp only [Option.some.injEq] at hu
    simp only [Act.put, Array.getD_eq_getD_getElem?]
    split at hu
    · rename_i hdt
      obtain rfl := Option.some.inj hu
      subst hdt
      rw [Array.getElem?_setIfInBounds_self]
      rw [if_pos (by omega)]
      exact hv
    · rename_i hdt
      rw [Array.getElem?_setIfInBounds_ne hdt]
      have := hs.er t u hu
      rwa [Array.getD_eq_getD_getElem?] at this

theorem St.mono {nt : Nat} {j' : JM} (h : Ext j j') (hs : St j nt e a) : St j' nt e a := ⟨hs.er.mono h, hs.size, hs.defers⟩

theorem ins_sound (hcall : CallOk P callF) {nt : Nat} {ops : Array Oper} {i : AIns} {e1 : Env} {Q : Exit → Act → World → Prop} {K : Act → World → Prop} (hc : cIns P nt ops o = some i) (hw : WR j H w) (hs : St j nt e a)
    (hr : i.step callF e H = some (e1, H')) (hK : ∀ j' a' w', Trans j H w j' H' w' → St j' nt e1 a' → K a' w') :
    if Region.wanted o (yielded ops a.tmps) then o.wp P a w K Q else K (a.put o.dst undef) w := by
  unfold cIns at hc
  split at hc
  · simp at hc
  rename_i p hp
  obtain ⟨hd, hc⟩ := if_some hc
  have hwant : ∀ b, i.wanted e = some b → i.dst = o.dst ∧ i.op = p ∧ Region.wanted o (yielded ops a.tmps) = b := by
    intro b hb
    split at hc
    · rename_i hg
      obtain rfl := Option.some.inj hc
      simp only [AIns.wanted, Option.some.injEq] at hb
      subst hb
      exact ⟨rfl, rfl, by simp [Region.wanted, hg]⟩
    · rename_i jj want hg
      split at hc
      · rename_i t ht
        obtain ⟨hlt, hc⟩ := if_some hc
        obtain rfl := Option.some.inj hc
        refine ⟨rfl, rfl, ?_⟩
        simp only [AIns.wanted] at hb
        have hsz := hs.size
        have htl : t < a.tmps.size := Nat.lt_of_lt_of_le hlt hsz
        have hget : a.tmps[t]? = some (a.tmps.getD t undef) := by
          rw [Array.getD_eq_getD_getElem?, Array.getElem?_eq_getElem htl]; rfl
        simp only [Region.wanted, hg, yielded, ht, Option.bind_some, hget]
        split at hb
        · rename_i x hx
          have := hs.er t _ hx
          simp only [VR] at this
          rw [this]
          simp only [Option.some.injEq] at hb
          subst hb
          cases x <;> cases want <;> rfl
        · rename_i x hx
          have := hs.er t _ hx
          simp only [VR] at this
          rw [this]
          simp only [Option.some.injEq] at hb
          subst hb
          cases x <;> cases want <;> rfl
        · rename_i u hnb hnb2 hx
          have := hs.er t _ hx
          simp only [Option.some.injEq] at hb
          subst hb
          cases u with
          | bool x => exact absurd rfl (hnb x)
          | symb x => exact absurd rfl (hnb2 x)
          | sym k n lo hi => obtain ⟨e', _⟩ := this; rw [e']; rfl
          | ptr b off => obtain ⟨_, _, e'⟩ := this; rw [e']; rfl
          | sl b off ln cap size => obtain ⟨_, _, _, _, _, _, e' | ⟨_, _, e'⟩⟩ := this <;> rw [e'] <;> rfl
          | agg cs => obtain ⟨_, e', _⟩ := this; rw [e']; rfl
          | tup cs => obtain ⟨_, e', _⟩ := this; rw [e']; rfl
          | fn f x y => obtain ⟨_, _, e', _⟩ := this; rw [e']; rfl
          | iface t v => obtain ⟨_, e', _⟩ := this; rw [e']; rfl
          | _ => simp only [VR] at this; rw [this]; rfl
        · simp at hb
      · simp at hc
  obtain ⟨v, hv, rfl⟩ := step_val.1 hr
  unfold AIns.val at hv
  split at hv
  · rename_i hwt
    obtain ⟨h1, h2, h3⟩ := hwant _ hwt
    rw [if_pos h3]
    rw [h2] at hv
    rcases op_sound hp hw hs.er hv with ⟨j', c, w', htr, hvr, hrun⟩ | ⟨f, vs, l, hcf, hvs, hrun⟩
    · have hst : St j' nt (putE e i.dst v) (a.put o.dst c) := by rw [h1]; exact (hs.mono htr.ext).put hd hvr
      unfold Oper.wp
      rcases hrun with hrun | ⟨hrun, rfl⟩
      · rw [hrun]; exact hK _ _ _ htr hst
      · rw [hrun]; exact hK _ _ _ htr hst
    · obtain ⟨h4, h5⟩ := hcall f vs H v H' hcf j w l hw hvs
      unfold Oper.wp
      rw [hrun, h4 w]
      refine h5.mono ?_
      rintro en w' ⟨j', c, htr, hvr, rfl⟩
      have hst : St j' nt (putE e i.dst v) (a.put o.dst c) := by rw [h1]; exact (hs.mono htr.ext).put hd hvr
      exact hK _ _ _ htr hst
  · rename_i hwt
    obtain ⟨h1, h2, h3⟩ := hwant _ hwt
    rw [if_neg (by simp [h3])]
    simp only [Option.some.injEq, Prod.mk.injEq] at hv
    obtain ⟨rfl, rfl⟩ := hv
    exact hK _ _ _ (Trans.refl hw) (by rw [h1]; exact hs.put hd ⟨[], rfl, rfl⟩)
  · simp at hv

theorem inss_length {nt : Nat} {ops : Array Oper} : ∀ {l : List Oper} {is : List AIns}, cInss P nt ops l = some is → is.length = l.length
  | [], is, h => by simp only [cInss, Option.some.injEq] at h; subst h; rfl
  | o :: l, is, h => by
    simp only [cInss] at h
    split at h
    · split at h
      · rename_i h2
        obtain rfl := Option.some.inj h
        simp [inss_length h2]
      · simp at h
    · simp at h

theorem inss_get {nt : Nat} {ops : Array Oper} : ∀ {l : List Oper} {is : List AIns}, cInss P nt ops l = some is → ∀ (k : Nat) (i : AIns), is[k]? = some i → ∃ o, l[k]? = some o ∧ cIns P nt ops o = some i
  | [], is, h, k, i, hk => by simp only [cInss, Option.some.injEq] at h; subst h; simp at hk
  | o :: l, is, h, k, i, hk => by
    simp only [cInss] at h
    split at h
    · rename_i i0 h1
      split at h
      · rename_i is' h2
        obtain rfl := Option.some.inj h
        cases k with
        | zero => simp only [List.getElem?_cons_zero, Option.some.injEq] at hk; subst hk; exact ⟨o, rfl, h1⟩
        | succ k => simpa using inss_get h2 k i (by simpa using hk)
      · simp at h
    · simp at h

/-- a region in the text's order -/
theorem region_sound (hcall : CallOk P callF) {nt : Nat} {ops : Array Oper} {Q : Exit → Act → World → Prop} : ∀ {l : List Oper} {is : List AIns} {e e' : Env} {a : Act} {j : JM} {H H' : Heap} {w : World}, cInss P nt ops l = some is → WR j H w → St j nt e a →
    runIns callF is e H = some (e', H') → (∀ j' a' w', Trans j H w j' H' w' → St j' nt e' a' → Q .normal a' w') → wpList P ops Q l a w
  | [], is, e, e', a, j, H, H', w, h, hw, hs, hr, hQ => by
    simp only [cInss, Option.some.injEq] at h
    subst h
    simp only [runIns, Option.some.injEq, Prod.mk.injEq] at hr
    obtain ⟨rfl, rfl⟩ := hr
    exact hQ j a w (Trans.refl hw) hs
  | o :: l, is, e, e', a, j, H, H', w, h, hw, hs, hr, hQ => by
    simp only [cInss] at h
    split at h
    · rename_i i0 h1
      split at h
      · rename_i is' h2
        obtain rfl := Option.some.inj h
        simp only [runIns] at hr
        split at hr
        · rename_i e1 H1 hst
          refine wpList_step (fun K hK => ?_)
          refine ins_sound hcall h1 hw hs hst (fun j' a' w' htr hs' => hK a' w' ?_)
          exact region_sound hcall h2 htr.wr hs' hr (fun j2 a2 w2 htr2 hs2 => hQ j2 a2 w2 (htr.trans htr2) hs2)
        · simp at hr
      · simp at h
    · simp at h

end
end Go.Ev
