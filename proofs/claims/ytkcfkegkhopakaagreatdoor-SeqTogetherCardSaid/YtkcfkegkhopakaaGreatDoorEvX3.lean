/- Code, functions: what the evaluator comes to, the loaded program comes to. -/
import Derived.Test.YtkcfkegkhopakaaGreatDoorEvX2
import Derived.CallsIn
import Derived.WalkKit
import Derived.ProofKit
import Derived.OpenShut
import Derived.ShutString
import Derived.ChangeOld
import Derived.SizedLaws
import Derived.Carry
import Derived.RangeFuncLeaves
import Derived.RangeFuncRecord
import Derived.RangeFuncIn
import Derived.TacticsIn
import Derived.Lib.ParseIntB
import Derived.Lib.ItoaNum
import Derived.Lib.Index
import Derived.Lib.Join
import Derived.Lib.ConvBytes
import Derived.Sort.Grow
import Derived.Deep.Draws
namespace Go.Ev
set_option linter.unusedSectionVars false
variable [Home]
set_option linter.unusedVariables false
set_option linter.unusedSimpArgs false
open Go

section
variable {P : Program} {a : Act} {o : Oper} {j : JM} {H H' : Heap} {w : World} {e : Env} {v : AV} {callF : CallF}

theorem op_sound {p : AOp} (hc : cOp P o.op = some p) (hw : WR j H w) (hE : ER j e a.tmps) (hr : p.run callF e H = some (v, H')) :
    Does P a o j H w v H' ∨ ∃ f vs l, callF f vs H = some (v, H') ∧ VRs j vs l ∧ (execOp a.eval o).run P w = (callFunc f l.toArray).run P w := by
  cases ho : o.op <;> rw [ho] at hc
  case move x => exact .inl (does_move (.inl ho) hc hw hE hr)
  case assign x => exact .inl (does_move (.inr ho) hc hw hE hr)
  case pick c x y => exact .inl (does_pick ho hc hw hE hr)
  case unOp op t x => exact .inl (does_un ho hc hw hE hr)
  case binOp op t x y t' => exact .inl (does_bin ho hc hw hE hr)
  case convert s d x => exact .inl (does_conv ho hc hw hE hr)
  case nilCheck x => exact .inl (does_nilck ho hc hw hE hr)
  case fieldAddr s x f => exact .inl (does_faddr ho hc hw hE hr)
  case indexAddr t x i => exact .inl (does_iaddr ho hc hw hE hr)
  case field s x f => exact .inl (does_field ho hc hw hE hr)
  case index t x i => exact .inl (does_index ho hc hw hE hr)
  case load t x => exact .inl (does_load ho hc hw hE hr)
  case store t x y => exact .inl (does_store ho hc hw hE hr)
  case alloc t => exact .inl (does_alloc ho hc hw hr)
  case box t x => exact .inl (does_box ho hc hw hE hr)
  case build t ps => exact .inl (does_build ho hc hw hE hr)
  case buildSlice t n ps => exact .inl (does_buildSl ho hc hw hE hr)
  case makeSlice t l c => exact .inl (does_mkSl ho hc hw hE hr)
  case slice t x lo hi mx => exact .inl (does_slice ho hc hw hE hr)
  case extract x k => exact .inl (does_extract ho hc hw hE hr)
  case makeFunc fn first captured =>
    cases fn
    case func f => exact .inl (does_mkfn ho hc hw hE hr)
    all_goals simp [cOp] at hc
  case call c =>
    simp only [cOp, cCall] at hc
    split at hc
    · -- a function by its name
      rename_i f hcal
      simp only [Option.map_eq_some_iff] at hc
      obtain ⟨xs, hxs, rfl⟩ := hc
      simp only [AOp.run] at hr
      split at hr
      · rename_i vs hvs
        refine .inr ⟨f, vs, _, hr, opds_sound hE hxs hvs, ?_⟩
        simp only [execOp, ho, resolve, hcal, Act.eval, Deferred.ofValue, invoke, Sem.run_bind, Sem.run_pure, Result.andThen_ok]
        congr 2
        simp [← Array.toList_map]
      · simp at hr
    · rename_i t hcal
      simp only [Option.map_eq_some_iff] at hc
      obtain ⟨xs, hxs, rfl⟩ := hc
      obtain ⟨u, hu, h1⟩ := on1_some hr
      have hf : VR j u (a.eval (.tmp t)) := opd_sound hE (x := .tmp t) rfl hu
      cases u <;> (try simp at h1; done)
      rename_i f first captured
      simp only at h1
      split at h1
      · rename_i vs hvs
        obtain ⟨l, m, he, hl, hm⟩ := hf
        refine .inr ⟨f, _, l ++ (c.args.toList.map a.eval) ++ m, h1, VRs.append (VRs.append hl (opds_sound hE hxs hvs)) hm, ?_⟩
        simp only [execOp, ho, resolve, hcal, he, Deferred.ofValue, invoke, Sem.run_bind, Sem.run_pure, Result.andThen_ok]
        congr 2
        simp [← Array.toList_map]
      · simp at h1
    · simp at hc
    · simp at hc
    · rename_i b hcal
      left
      split at hc
      · rename_i x t hargs hat
        exact does_len ho hcal hargs hat hc hw hE hr
      · rename_i x y t u hargs hat
        split at hc
        · rename_i el q xa ya hel hu hx hy
          simp only [Option.bind_eq_some_iff] at hc
          obtain ⟨s, hs, z, hz, hc⟩ := hc
          obtain ⟨⟨h0, h0z, hzv⟩, hc⟩ := if_some hc
          exact does_append ho hcal hargs hat hel (.inl ⟨_, hu⟩) hs hz h0 h0z hzv hx hy (Option.some.inj hc).symm hw hE hr
        · rename_i el xa ya hel hu hx hy
          simp only [Option.bind_eq_some_iff] at hc
          obtain ⟨s, hs, z, hz, hc⟩ := hc
          obtain ⟨⟨h0, h0z, hzv⟩, hc⟩ := if_some hc
          exact does_append ho hcal hargs hat hel (.inr hu) hs hz h0 h0z hzv hx hy (Option.some.inj hc).symm hw hE hr
        · simp at hc
      · rename_i x y t u hargs hat
        split at hc
        · rename_i el xa ya hel hx hy
          simp only [Option.bind_eq_some_iff] at hc
          obtain ⟨s, hs, hc⟩ := hc
          obtain ⟨h0, hc⟩ := if_some hc
          exact does_copy ho hcal hargs hat hel hs hx hy (Option.some.inj hc).symm hw hE hr
        · simp at hc
      · simp only [Option.map_eq_some_iff] at hc
        obtain ⟨xs, hxs, rfl⟩ := hc
        exact does_minmax (mx := false) ho (by simpa using hcal) hxs rfl hw hE hr
      · simp only [Option.map_eq_some_iff] at hc
        obtain ⟨xs, hxs, rfl⟩ := hc
        exact does_minmax (mx := true) ho (by simpa using hcal) hxs rfl hw hE hr
      · simp at hc
  all_goals simp [cOp] at hc

/-- what a call of the evaluator's says of the loaded function -/
def FnPost (j : JM) (H : Heap) (w : World) (v : AV) (H' : Heap) (en : Ending) (w' : World) : Prop :=
  ∃ j' c, Trans j H w j' H' w' ∧ VR j' v c ∧ en = .returned c

def CallOk (P : Program) (callF : CallF) : Prop := ∀ f vs H v H', callF f vs H = some (v, H') → ∀ j w l, WR j H w → VRs j vs l →
  (∀ w, (callFunc f l.toArray).run P w = .ok (.enter f l.toArray) w) ∧ Calls P f l.toArray w (FnPost j H w v H')

/-- the state after an instruction -/
structure St (ds : List Deferred) (j : JM) (nt : Nat) (e : Env) (a : Act) : Prop where
  er : ER j e a.tmps
  size : nt ≤ a.tmps.size
  defers : a.defers = ds

variable {ds : List Deferred}

theorem St.put {nt : Nat} {dst : Option Nat} {c : Value} (hs : St ds j nt e a) (hd : (match dst with | some d => decide (d < nt) | none => true) = true) (hv : VR j v c) : St ds j nt (putE e dst v) (a.put dst c) := by
  cases dst with
  | none => exact hs
  | some d =>
    simp only [decide_eq_true_eq] at hd
    have hsz := hs.size
    refine ⟨fun t u hu => ?_, by simpa [Act.put] using hs.size, hs.defers⟩
    rw [lk_put] at hu
    simp only [Option.some.injEq] at hu
    simp only [Act.put, Array.getD_eq_getD_getElem?]
    split at hu
    · rename_i hdt
      obtain rfl := Option.some.inj hu
      subst hdt
      rw [Array.getElem?_setIfInBounds_self]
      rw [if_pos (by omega)]
      exact hv
    · rename_i hdt
      rw [Array.getElem?_setIfInBounds_ne hdt]
      have := hs.er t u hu
      rwa [Array.getD_eq_getD_getElem?] at this

theorem St.mono {nt : Nat} {j' : JM} (h : Ext j j') (hs : St ds j nt e a) : St ds j' nt e a := ⟨hs.er.mono h, hs.size, hs.defers⟩

theorem ins_soundP (hcall : CallOk P callF) {nt : Nat} {ops : Array Oper} {i : AIns} {e1 : Env} {Q : Exit → Act → World → Prop} {K : Act → World → Prop} (hc : cIns P nt ops o = some i) (hw : WR j H w) (hs : St ds j nt e a)
    (hr : i.step callF e H = some (e1, H')) (hK : ∀ j' c w', Trans j H w j' H' w' → St ds j' nt e1 (a.put o.dst c) → K (a.put o.dst c) w') :
    if Region.wanted o (yielded ops a.tmps) then o.wp P a w K Q else K (a.put o.dst undef) w := by
  unfold cIns at hc
  split at hc
  · simp at hc
  rename_i p hp
  obtain ⟨hd, hc⟩ := if_some hc
  have hwant : ∀ b, i.wanted e = some b → i.dst = o.dst ∧ i.op = p ∧ Region.wanted o (yielded ops a.tmps) = b := by
    intro b hb
    split at hc
    · rename_i hg
      obtain rfl := Option.some.inj hc
      simp only [AIns.wanted, Option.some.injEq] at hb
      subst hb
      exact ⟨rfl, rfl, by simp [Region.wanted, hg]⟩
    · rename_i jj want hg
      split at hc
      · rename_i t ht
        obtain ⟨hlt, hc⟩ := if_some hc
        obtain rfl := Option.some.inj hc
        refine ⟨rfl, rfl, ?_⟩
        simp only [AIns.wanted] at hb
        have hsz := hs.size
        have htl : t < a.tmps.size := Nat.lt_of_lt_of_le hlt hsz
        have hget : a.tmps[t]? = some (a.tmps.getD t undef) := by
          rw [Array.getD_eq_getD_getElem?, Array.getElem?_eq_getElem htl]; rfl
        simp only [Region.wanted, hg, yielded, ht, Option.bind_some, hget]
        split at hb
        · rename_i x hx
          have := hs.er t _ hx
          simp only [VR] at this
          rw [this]
          simp only [Option.some.injEq] at hb
          subst hb
          cases x <;> cases want <;> rfl
        · rename_i x hx
          have := hs.er t _ hx
          simp only [VR] at this
          rw [this]
          simp only [Option.some.injEq] at hb
          subst hb
          cases x <;> cases want <;> rfl
        · rename_i u hnb hnb2 hx
          have := hs.er t _ hx
          simp only [Option.some.injEq] at hb
          subst hb
          cases u with
          | bool x => exact absurd rfl (hnb x)
          | symb x => exact absurd rfl (hnb2 x)
          | sym k n lo hi => obtain ⟨e', _⟩ := this; rw [e']; rfl
          | ptr b off => obtain ⟨_, _, e'⟩ := this; rw [e']; rfl
          | sl b off ln cap size => obtain ⟨_, _, _, _, _, _, e' | ⟨_, _, e'⟩⟩ := this <;> rw [e'] <;> rfl
          | agg cs => obtain ⟨_, e', _⟩ := this; rw [e']; rfl
          | tup cs => obtain ⟨_, e', _⟩ := this; rw [e']; rfl
          | fn f x y => obtain ⟨_, _, e', _⟩ := this; rw [e']; rfl
          | iface t v => obtain ⟨_, e', _⟩ := this; rw [e']; rfl
          | ifaceX => obtain ⟨_, _, e'⟩ := this; rw [e']; rfl
          | yv b => obtain ⟨_, _, e'⟩ := this; rw [e']; rfl
          | _ => simp only [VR] at this; rw [this]; rfl
        · simp at hb
      · simp at hc
  obtain ⟨v, hv, rfl⟩ := step_val.1 hr
  unfold AIns.val at hv
  split at hv
  · rename_i hwt
    obtain ⟨h1, h2, h3⟩ := hwant _ hwt
    rw [if_pos h3]
    rw [h2] at hv
    rcases op_sound hp hw hs.er hv with ⟨j', c, w', htr, hvr, hrun⟩ | ⟨f, vs, l, hcf, hvs, hrun⟩
    · have hst : St ds j' nt (putE e i.dst v) (a.put o.dst c) := by rw [h1]; exact (hs.mono htr.ext).put hd hvr
      unfold Oper.wp
      rcases hrun with hrun | ⟨hrun, rfl⟩
      · rw [hrun]; exact hK _ _ _ htr hst
      · rw [hrun]; exact hK _ _ _ htr hst
    · obtain ⟨h4, h5⟩ := hcall f vs H v H' hcf j w l hw hvs
      unfold Oper.wp
      rw [hrun, h4 w]
      refine h5.mono ?_
      rintro en w' ⟨j', c, htr, hvr, rfl⟩
      have hst : St ds j' nt (putE e i.dst v) (a.put o.dst c) := by rw [h1]; exact (hs.mono htr.ext).put hd hvr
      exact hK _ _ _ htr hst
  · rename_i hwt
    obtain ⟨h1, h2, h3⟩ := hwant _ hwt
    rw [if_neg (by simp [h3])]
    simp only [Option.some.injEq, Prod.mk.injEq] at hv
    obtain ⟨rfl, rfl⟩ := hv
    exact hK _ _ _ (Trans.refl hw) (by rw [h1]; exact hs.put hd ⟨[], rfl, rfl⟩)
  · simp at hv

theorem ins_sound (hcall : CallOk P callF) {nt : Nat} {ops : Array Oper} {i : AIns} {e1 : Env} {Q : Exit → Act → World → Prop} {K : Act → World → Prop} (hc : cIns P nt ops o = some i) (hw : WR j H w) (hs : St ds j nt e a)
    (hr : i.step callF e H = some (e1, H')) (hK : ∀ j' a' w', Trans j H w j' H' w' → St ds j' nt e1 a' → K a' w') :
    if Region.wanted o (yielded ops a.tmps) then o.wp P a w K Q else K (a.put o.dst undef) w := ins_soundP hcall hc hw hs hr (fun j' c w' => hK j' _ w')

theorem inss_length {nt : Nat} {ops : Array Oper} : ∀ {l : List Oper} {is : List AIns}, cInss P nt ops l = some is → is.length = l.length
  | [], is, h => by simp only [cInss, Option.some.injEq] at h; subst h; rfl
  | o :: l, is, h => by
    simp only [cInss] at h
    split at h
    · split at h
      · rename_i h2
        obtain rfl := Option.some.inj h
        simp [inss_length h2]
      · simp at h
    · simp at h

theorem inss_get {nt : Nat} {ops : Array Oper} : ∀ {l : List Oper} {is : List AIns}, cInss P nt ops l = some is → ∀ (k : Nat) (i : AIns), is[k]? = some i → ∃ o, l[k]? = some o ∧ cIns P nt ops o = some i
  | [], is, h, k, i, hk => by simp only [cInss, Option.some.injEq] at h; subst h; simp at hk
  | o :: l, is, h, k, i, hk => by
    simp only [cInss] at h
    split at h
    · rename_i i0 h1
      split at h
      · rename_i is' h2
        obtain rfl := Option.some.inj h
        cases k with
        | zero => simp only [List.getElem?_cons_zero, Option.some.injEq] at hk; subst hk; exact ⟨o, rfl, h1⟩
        | succ k => simpa using inss_get h2 k i (by simpa using hk)
      · simp at h
    · simp at h

/-- a region in the text's order -/
theorem region_sound (hcall : CallOk P callF) {nt : Nat} {ops : Array Oper} {Q : Exit → Act → World → Prop} : ∀ {l : List Oper} {is : List AIns} {e e' : Env} {a : Act} {j : JM} {H H' : Heap} {w : World}, cInss P nt ops l = some is → WR j H w → St ds j nt e a →
    runIns callF is e H = some (e', H') → (∀ j' a' w', Trans j H w j' H' w' → St ds j' nt e' a' → Q .normal a' w') → wpList P ops Q l a w
  | [], is, e, e', a, j, H, H', w, h, hw, hs, hr, hQ => by
    simp only [cInss, Option.some.injEq] at h
    subst h
    simp only [runIns, Option.some.injEq, Prod.mk.injEq] at hr
    obtain ⟨rfl, rfl⟩ := hr
    exact hQ j a w (Trans.refl hw) hs
  | o :: l, is, e, e', a, j, H, H', w, h, hw, hs, hr, hQ => by
    simp only [cInss] at h
    split at h
    · rename_i i0 h1
      split at h
      · rename_i is' h2
        obtain rfl := Option.some.inj h
        simp only [runIns] at hr
        split at hr
        · rename_i e1 H1 hst
          refine wpList_step (fun K hK => ?_)
          refine ins_sound hcall h1 hw hs hst (fun j' a' w' htr hs' => hK a' w' ?_)
          exact region_sound hcall h2 htr.wr hs' hr (fun j2 a2 w2 htr2 hs2 => hQ j2 a2 w2 (htr.trans htr2) hs2)
        · simp at hr
      · simp at h
    · simp at h

end
end Go.Ev

/- Regions whose order is open; code; functions. -/

namespace Go.Ev
set_option linter.unusedSectionVars false
variable [Home]
set_option linter.unusedVariables false
set_option linter.unusedSimpArgs false
open Go

instance : Inhabited AIns := ⟨⟨none, none, .lenC 0⟩⟩

section
variable {P : Program} {callF : CallF} {md : Nat → Nat} {ds : List Deferred}

theorem getD_agree (l : Array Bool) (k : Nat) (h : k < l.size) (a b : Bool) : l.getD k a = l.getD k b := by
  simp [h]

theorem listed_of_mask {n : Nat} {deps : List (List Nat)} {listed : Nat → Bool} (hlen : deps.length = n) (hlt : ∀ (i : Nat) (l : List Nat), deps[i]? = some l → ∀ d ∈ l, d < i)
    (hcl : ∀ (k : Nat), listed k = true → ∀ (l : List Nat), deps[k]? = some l → ∀ d ∈ l, listed d = true) (p : Nat) :
    ∀ (i : Nat) (l : List Nat), deps[i]? = some l → (∀ d ∈ l, listed d = true) → ((masks deps []).getD i 0).testBit p = true → listed p = true := by
  intro i
  induction i using Nat.strongRecOn with
  | _ i ih =>
    intro l hl hall hb
    obtain ⟨d, hd, h⟩ := masks_spec deps [] i p l hl (fun d hd => by simpa using hlt i l hl d hd) (by simpa using hb)
    rcases h with rfl | h
    · exact hall _ hd
    · have hdi := hlt i l hl d hd
      have hin : i < deps.length := by
        rcases Nat.lt_or_ge i deps.length with h' | h'
        · exact h'
        · rw [List.getElem?_eq_none h'] at hl; simp at hl
      have hdl : deps[d]? = some deps[d] := List.getElem?_eq_getElem (by omega)
      exact ih d hdi _ hdl (hcl d (hall d hd) _ hdl) h

theorem any_sound (hcall : CallOk P callF) (hmd : CallCls callF md) (hmo : CallMono callF) {conf : List Nat} {h0 : Heap} {nt : Nat} {ops : Array Oper} {is : List AIns} {Q : Exit → Act → World → Prop}
    (hc : cInss P nt ops ops.toList = some is) (hlt : ∀ (i : Nat) (l : List Nat), (ops.toList.map depsOf)[i]? = some l → ∀ d ∈ l, d < i) {S : Nat → Prop}
    (hcm : ∀ i p x y, p < i → i < is.length → S i → S p → is[p]? = some x → is[i]? = some y → ((masks (ops.toList.map depsOf) []).getD i 0).testBit p = true ∨ commutes md x y = true ∨ softly conf x y = true) :
    ∀ (m : Nat) (L : List Nat) (listed : Array Bool) {e e' : Env} {a : Act} {j : JM} {H H' : Heap} {w : World}, L.length = m → listed.size = ops.size →
      L = (List.range ops.size).filter (fun k => !listed.getD k true) → (∀ k ∈ L, S k) →
      (∀ (k : Nat), listed.getD k false = true → ∀ (l : List Nat), (ops.toList.map depsOf)[k]? = some l → ∀ d ∈ l, listed.getD d false = true) →
      WR j H w → St ds j nt e a → runIns callF (L.map fun k => is.getD k default) e H = some (e', H') → h0.In H → OkConf conf h0 e' H' → Stays conf (L.map fun k => is.getD k default) →
      (∀ e'' j' a' w', Eqv e' e'' → Trans j H w j' H' w' → St ds j' nt e'' a' → Q .normal a' w') → wpAny P .any ops Q m listed a w := by
  have hlen := inss_length hc
  simp only [Array.length_toList] at hlen
  have hdl : (ops.toList.map depsOf).length = ops.size := by simp
  have hdeps : ∀ (i : Nat) (o : Oper), ops[i]? = some o → (ops.toList.map depsOf)[i]? = some (depsOf o) := by
    intro i o ho
    rw [List.getElem?_map, Array.getElem?_toList, ho]
    rfl
  have hsorted : ∀ listed : Array Bool, ((List.range ops.size).filter (fun k => !listed.getD k true)).Pairwise (· < ·) := fun listed => (List.pairwise_lt_range).filter _
  have hready : ∀ listed : Array Bool, Region.ready .any ops listed = ((List.range ops.size).filter (fun k => !listed.getD k true)).filter (fun i => ((ops[i]?).map (·.after.all fun e => !Region.binds .any e || listed.getD e.on false)).getD false) := by
    intro listed
    unfold Region.ready
    rw [List.filter_filter]
    congr 1
    funext i
    rw [Bool.and_comm]
  have hq : ∀ (listed : Array Bool) (i : Nat) (o : Oper), ops[i]? = some o → (((ops[i]?).map (·.after.all fun e => !Region.binds .any e || listed.getD e.on false)).getD false = true ↔ ∀ d ∈ depsOf o, listed.getD d false = true) := by
    intro listed i o ho
    simp only [ho, Option.map_some, Option.getD_some, depsOf, List.mem_map, List.mem_filter, Array.mem_toList_iff, Array.all_eq_true_iff_forall_mem, Bool.or_eq_true, Bool.not_eq_true']
    constructor
    · rintro h d ⟨ed, ⟨h1, h2⟩, rfl⟩
      rcases h ed h1 with h3 | h3
      · rw [h2] at h3; simp at h3
      · exact h3
    · intro h ed h1
      cases hb : Region.binds .any ed
      · exact .inl rfl
      · exact .inr (h ed.on ⟨ed, ⟨h1, hb⟩, rfl⟩)
  intro m
  induction m with
  | zero =>
    intro L listed e e' a j H H' w hL hsz hLe hLS hcl hw hs hr hn0 hcf hsty hQ
    have hnil : L = [] := List.eq_nil_of_length_eq_zero hL
    rw [hnil] at hr
    simp only [List.map_nil, runIns, Option.some.injEq, Prod.mk.injEq] at hr
    obtain ⟨rfl, rfl⟩ := hr
    refine ⟨?_, hQ e j a w (Eqv.refl _) (Trans.refl hw) hs⟩
    rw [hready, ← hLe, hnil]
    rfl
  | succ m ih =>
    intro L listed e e' a j H H' w hL hsz hLe hLS hcl hw hs hr hn0 hcf hsty hQ
    refine ⟨fun hemp => ?_, fun i hi => ?_⟩
    · -- something is always ready
      exfalso
      cases hLc : L with
      | nil => simp [hLc] at hL
      | cons l0 rest =>
        have hmem : l0 ∈ (List.range ops.size).filter (fun k => !listed.getD k true) := by rw [← hLe, hLc]; simp
        have hl0 := (List.mem_filter.1 hmem).1
        rw [List.mem_range] at hl0
        have ho : ops[l0]? = some ops[l0] := Array.getElem?_eq_getElem hl0
        have hsrt := hsorted listed
        rw [← hLe, hLc, List.pairwise_cons] at hsrt
        have hin : l0 ∈ Region.ready .any ops listed := by
          rw [hready]
          refine List.mem_filter.2 ⟨hmem, (hq listed l0 _ ho).2 (fun d hd => ?_)⟩
          have hdl0 := hlt l0 _ (hdeps l0 _ ho) d hd
          rw [getD_agree listed d (by omega) false true]
          cases hbv : listed.getD d true with
          | true => rfl
          | false =>
            have : d ∈ L := by rw [hLe]; exact List.mem_filter.2 ⟨List.mem_range.2 (by omega), by simp [hbv]⟩
            rw [hLc] at this
            rcases List.mem_cons.1 this with h | h
            · omega
            · have := hsrt.1 d h; omega
        rw [hemp] at hin
        simp at hin
    · rw [hready, ← hLe] at hi
      obtain ⟨hiL, hiq⟩ := List.mem_filter.1 hi
      obtain ⟨pre, post, hsplit⟩ := List.append_of_mem hiL
      have hir : i < ops.size := by
        have : i ∈ (List.range ops.size).filter (fun k => !listed.getD k true) := by rw [← hLe]; exact hiL
        exact List.mem_range.1 (List.mem_filter.1 this).1
      have ho : ops[i]? = some ops[i] := Array.getElem?_eq_getElem hir
      have hdi := (hq listed i _ ho).1 hiq
      have hsrt := hsorted listed
      rw [← hLe, hsplit, List.pairwise_append, List.pairwise_cons] at hsrt
      have hpre : ∀ p ∈ pre, p < i := fun p hp => hsrt.2.2 p hp i (by simp)
      have hpost : ∀ p ∈ post, i < p := fun p hp => hsrt.2.1.1 p hp
      have hcomm : ∀ x ∈ pre.map (fun k => is.getD k default), commutes md x (is.getD i default) = true ∨ softly conf x (is.getD i default) = true := by
        intro x hx
        obtain ⟨p, hp, rfl⟩ := List.mem_map.1 hx
        have hpi := hpre p hp
        have hp1 : is[p]? = some is[p] := List.getElem?_eq_getElem (by omega)
        have hi1 : is[i]? = some is[i] := List.getElem?_eq_getElem (by omega)
        have h2 := hcm i p _ _ hpi (by omega) (hLS i hiL) (hLS p (by rw [hsplit]; simp [hp])) hp1 hi1
        rcases h2 with h2 | h2
        · exfalso
          have hlp := listed_of_mask (n := ops.size) (listed := fun k => listed.getD k false) hdl hlt hcl p i _ (hdeps i _ ho) hdi h2
          have : p ∈ (List.range ops.size).filter (fun k => !listed.getD k true) := by rw [← hLe, hsplit]; simp [hp]
          have := (List.mem_filter.1 this).2
          rw [getD_agree listed p (by omega) true false, hlp] at this
          simp at this
        · simpa [List.getD, hp1, hi1] using h2
      rw [hsplit, List.map_append, List.map_cons] at hr hsty
      obtain ⟨e1, H1, e'', hst, hrest, heq⟩ := bubbleD hmd hmo hcomm hr hn0 hcf hsty
      have hil : i < is.length := by omega
      have hid : is.getD i default = is[i] := by simp [List.getD, List.getElem?_eq_getElem hil]
      rw [hid] at hst
      obtain ⟨o, ho', hci⟩ := inss_get hc i is[i] (List.getElem?_eq_getElem hil)
      rw [Array.getElem?_toList, ho] at ho'
      obtain rfl := Option.some.inj ho'
      have hL' : pre ++ post = (List.range ops.size).filter (fun k => !(listed.setIfInBounds i true).getD k true) := by
        have hf : (List.range ops.size).filter (fun k => !(listed.setIfInBounds i true).getD k true) = L.filter (fun k => k ≠ i) := by
          rw [hLe, List.filter_filter]
          congr 1
          funext k
          simp only [Array.getD_eq_getD_getElem?, Array.getElem?_setIfInBounds]
          by_cases hk : i = k
          · subst hk
            have hlt3 : i < listed.size := by omega
            simp [hlt3]
          · simp [hk, Ne.symm hk]
        rw [hf, hsplit, List.filter_append, List.filter_cons]
        simp only [ne_eq, not_true_eq_false, decide_false, Bool.false_eq_true, if_false]
        rw [List.filter_eq_self.2 (fun p hp => by have := hpre p hp; simp; omega), List.filter_eq_self.2 (fun p hp => by have := hpost p hp; simp; omega)]
      have hcl' : ∀ (k : Nat), (listed.setIfInBounds i true).getD k false = true → ∀ (l : List Nat), (ops.toList.map depsOf)[k]? = some l → ∀ d ∈ l, (listed.setIfInBounds i true).getD d false = true := by
        intro k hk l hl d hd
        have up : ∀ d, listed.getD d false = true → (listed.setIfInBounds i true).getD d false = true := by
          intro d hd
          simp only [Array.getD_eq_getD_getElem?, Array.getElem?_setIfInBounds] at hd ⊢
          by_cases hid : i = d
          · subst hid
            have hlt3 : i < listed.size := by omega
            simp [hlt3]
          · simpa [hid] using hd
        by_cases hki : k = i
        · subst hki
          rw [hdeps k _ ho] at hl
          obtain rfl := Option.some.inj hl
          exact up d (hdi d hd)
        · refine up d (hcl k ?_ l hl d hd)
          simp only [Array.getD_eq_getD_getElem?, Array.getElem?_setIfInBounds] at hk ⊢
          simpa [Ne.symm hki] using hk
      have hlen' : (pre ++ post).length = m := by
        have := hL
        rw [hsplit] at this
        simp at this ⊢
        omega
      have key := ins_sound (Q := Q) (K := wpAny P .any ops Q m (listed.setIfInBounds i true)) hcall hci hw hs hst (fun j' a' w' htr hs' =>
        ih (pre ++ post) (listed.setIfInBounds i true) hlen' (by simpa using hsz) hL' (fun k hk => hLS k (by rw [hsplit]; simp only [List.mem_append, List.mem_cons] at hk ⊢; exact hk.imp id .inr)) hcl' htr.wr hs' (by rw [List.map_append]; exact hrest) (fun x hx => htr.next x (hn0 x hx)) (hcf.eqv heq) (by rw [List.map_append]; exact hsty.remove)
          (fun e3 j3 a3 w3 h3 htr3 hs3 => hQ e3 j3 a3 w3 (heq.trans h3) (htr.trans htr3) hs3))
      unfold wpOp
      simp only [ho]
      split
      · rename_i hwant; rw [if_pos hwant] at key; exact .inl key
      · rename_i hwant; rw [if_neg hwant] at key; exact key


theorem drawOkD_spec {conf : List Nat} {is : List AIns} {deps : List (List Nat)} (hd : deps.length = is.length) (hok : drawOkD md conf is deps = true) :
    (∀ (i : Nat) (l : List Nat), deps[i]? = some l → ∀ d ∈ l, d < i) ∧
    ∀ i p x y, p < i → i < is.length → True → True → is[p]? = some x → is[i]? = some y → ((masks deps []).getD i 0).testBit p = true ∨ commutes md x y = true ∨ softly conf x y = true := by
  have hspec := fun k hk => allBelow_spec hok k hk
  refine ⟨fun i l hl d hdl => ?_, fun i p x y hp hi _ _ hx hy => ?_⟩
  · have hi : i < is.length := by
      rcases Nat.lt_or_ge i is.length with h' | h'
      · exact h'
      · rw [List.getElem?_eq_none (by omega)] at hl; simp at hl
    have := hspec i hi
    simp only [Bool.and_eq_true, List.getD, hl, Option.getD_some, List.all_eq_true, Nat.blt_eq] at this
    exact this.1 d hdl
  · have h1 := hspec i hi
    simp only [Bool.and_eq_true] at h1
    have h2 := allBelow_spec h1.2 p hp
    simp only [hx, hy, Bool.or_eq_true] at h2
    exact h2

/-! ### blocks of their own whose order is open: first what needs none of them, then these, then the rest -/
def isAlloc (o : Oper) : Bool := match o.op with
  | .alloc _ => true
  | _ => false
def isAl (i : AIns) : Bool := match i with
  | ⟨some _, none, .alloc _⟩ => true
  | _ => false

def phA (is : List AIns) (k : Nat) : Bool := match is[k]? with
  | some i => isAl i
  | none => false
def phR (is : List AIns) (ms : List Nat) (k : Nat) : Bool := !phA is k && (List.range is.length).all fun a => !phA is a || (ms.getD k 0).testBit a
def phP (is : List AIns) (ms : List Nat) (k : Nat) : Bool := !phA is k && !phR is ms k

def canonB (is : List AIns) (ms : List Nat) : List AIns :=
  ((List.range is.length).filter (phP is ms)).map (fun k => is.getD k default) ++ (((List.range is.length).filter (phA is)).map (fun k => is.getD k default) ++ ((List.range is.length).filter (phR is ms)).map (fun k => is.getD k default))

def drawOkB (md : Nat → Nat) (is : List AIns) (deps : List (List Nat)) : Bool :=
  let ms := masks deps []
  allBelow is.length fun j => (deps.getD j []).all (fun d => Nat.blt d j) && (!phP is ms j || Nat.ble ((is.getD j default).op.cls md) 1) &&
    allBelow is.length fun i => (!phR is ms j || (phR is ms i || ((ms.getD j 0).testBit i || (phP is ms i && ((is.getD i default).op.cls md).beq 0)))) &&
      (!(phR is ms j && phP is ms i) || (Nat.blt i j && ((ms.getD j 0).testBit i || commutes md (is.getD i default) (is.getD j default)))) &&
      ((!(Nat.blt i j) || !((phP is ms i && phP is ms j) || (phR is ms i && phR is ms j))) || ((ms.getD j 0).testBit i || commutes md (is.getD i default) (is.getD j default))) &&
      (!(phP is ms j && phA is i) || (!dstIn (is.getD i default).dst (is.getD j default).uses && !sameDst (is.getD i default).dst (is.getD j default).dst)) &&
      (!(phA is i && phA is j) || (i.beq j || !sameDst (is.getD i default).dst (is.getD j default).dst))

theorem phA_spec {is : List AIns} {k : Nat} (h : phA is k = true) : ∃ d z, is[k]? = some ⟨some d, none, .alloc z⟩ ∧ is.getD k default = ⟨some d, none, .alloc z⟩ := by
  unfold phA at h
  split at h
  · rename_i i hi
    unfold isAl at h
    split at h
    · rename_i d z
      exact ⟨d, z, hi, by simp [List.getD, hi]⟩
    · simp at h
  · simp at h

theorem ins_alloc {nt : Nat} {ops : Array Oper} {o : Oper} {d : Nat} {z : List AV} (h : cIns P nt ops o = some ⟨some d, none, .alloc z⟩) (ho : isAlloc o = true) :
    ∃ t, o.op = .alloc t ∧ zero? P t = some z ∧ o.dst = some d ∧ o.guard = none ∧ d < nt := by
  unfold isAlloc at ho
  split at ho
  · rename_i t hop
    unfold cIns at h
    split at h
    · simp at h
    rename_i p hp
    obtain ⟨hd, h⟩ := if_some h
    rw [hop] at hp
    simp only [cOp, Option.map_eq_some_iff] at hp
    obtain ⟨z', hz, rfl⟩ := hp
    split at h
    · rename_i hg
      have h := Option.some.inj h
      simp only [AIns.mk.injEq, AOp.alloc.injEq, true_and] at h
      obtain ⟨h1, rfl⟩ := h
      rw [h1] at hd
      exact ⟨t, hop, hz, h1, hg, by simpa using hd⟩
    · split at h
      · obtain ⟨_, h⟩ := if_some h
        have h := Option.some.inj h
        simp at h
      · simp at h
  · simp at ho

theorem least {p : Nat → Prop} : ∀ n, p n → ∃ m, m ≤ n ∧ p m ∧ ∀ k, k < m → ¬ p k := by
  intro n
  induction n using Nat.strongRecOn with
  | _ n ih =>
    intro hn
    by_cases hx : ∃ k, k < n ∧ p k
    · obtain ⟨k, hk, hpk⟩ := hx
      obtain ⟨m, h1, h2, h3⟩ := ih k hk hpk
      exact ⟨m, by omega, h2, h3⟩
    · exact ⟨n, Nat.le_refl _, hn, fun k hk hpk => hx ⟨k, hk, hpk⟩⟩

/-- a block of the world's own more, of which nothing is said yet -/
theorem alloc_trans {j : JM} {H : Heap} {w : World} (h : WR j H w) (o : Obj) : Trans j H w j H (w.alloc o) := by
  have hsz : (w.alloc o).heap.size = w.heap.size + 1 := by show (w.heap.push o).size = _; simp
  have hold : ∀ k, k < w.heap.size → (w.alloc o).heap[k]? = w.heap[k]? := fun k hk => by
    show (w.heap.push o)[k]? = _
    rw [Array.getElem?_push, if_neg (by omega)]
  have hwr : WR j H (w.alloc o) := h.of_heap (by omega) (fun b cs loc hb hj => by
    obtain ⟨loc', h1, h2, _⟩ := h.cell b cs hb
    rw [hj] at h1
    obtain rfl := Option.some.inj h1
    exact hold _ h2) (Home.keep w _ h.inv (by omega) (fun k hk => hold k (by have := h.gsz; omega)))
  exact ⟨Ext.refl j, hwr, fun _ => rfl, fun _ h => h, rfl, rfl, rfl, by omega, fun k hk _ => hold k hk, fun _ _ h => h, fun _ _ h => h⟩

/-- such blocks: the registers that hold them, what lies there -/
structure PendB (is : List AIns) (n0 : Nat) (H : Heap) (blk : Nat → Nat) (j : JM) (w : World) (a : Act) (X : Nat → Prop) : Prop where
  ex : ∀ k, X k → ∃ d z l ty, is[k]? = some ⟨some d, none, .alloc z⟩ ∧ a.tmps.getD d undef = .pointer (some ⟨blk k, 0, none⟩) ∧ w.heap[blk k]? = some (.cells (l : List Value).toArray ty) ∧ (∀ j, VRs j z l) ∧ n0 ≤ blk k ∧ blk k < w.heap.size
  inj : ∀ k k', X k → X k' → blk k = blk k' → k = k'
  no : ∀ k, X k → ∀ b cs loc, H.get b = some cs → j b = some loc → loc.blk ≠ blk k

/-- such a block is taken into the evaluator's heap -/
theorem Trans.adopt {j0 j : JM} {H0 H : Heap} {w0 w : World} (T : Trans j0 H0 w0 j H w) {cs : List AV} {l : List Value} {ty : TypeId} {k : Nat} (hl : ∀ j, VRs j cs l) (hk : w.heap[k]? = some (.cells l.toArray ty))
    (h0 : w0.heap.size ≤ k) (hg : Home.G ≤ k) (hno : ∀ b cs loc, H.get b = some cs → j b = some loc → loc.blk ≠ k) : Trans j0 H0 w0 (upd j H.nb ⟨k, 0, l.length⟩) (H.push cs) w := by
  have h := T.wr
  have hext := upd_ext h ⟨k, 0, l.length⟩
  have hlen := VRs.length (hl j)
  have hks : k < w.heap.size := by
    rcases Nat.lt_or_ge k w.heap.size with h1 | h1
    · exact h1
    · rw [Array.getElem?_eq_none h1] at hk; simp at hk
  have old : ∀ b cs0, (H.push cs).get b = some cs0 → b ≠ H.nb → H.get b = some cs0 ∧ ∀ loc, upd j H.nb ⟨k, 0, l.length⟩ b = some loc → j b = some loc := by
    intro b cs0 hb hne
    rw [Heap.get_push, if_neg hne] at hb
    exact ⟨hb, fun loc hj => by simpa [upd, hne] using hj⟩
  have new : ∀ cs0, (H.push cs).get H.nb = some cs0 → cs0 = cs := by
    intro cs0 hb
    rw [Heap.get_push, if_pos rfl] at hb
    exact (Option.some.inj hb).symm
  have newj : ∀ loc, upd j H.nb ⟨k, 0, l.length⟩ H.nb = some loc → loc = ⟨k, 0, l.length⟩ := by
    intro loc hj
    simp only [upd, if_true, Option.some.injEq] at hj
    exact hj.symm
  refine ⟨T.ext.trans hext, ⟨?_, ?_, ?_, ?_, ?_, h.gsz, h.inv, ?_⟩, T.ro, fun x hx => has_push cs (T.next x hx), T.os, T.tape, T.output, T.size, T.keep, ?_, fun x hx hn => ?_⟩
  · intro b loc hb
    by_cases hne : b = H.nb
    · rw [hne]; exact has_push_nb H cs
    · exact has_push cs (h.dom b loc (by simpa [upd, hne] using hb))
  · intro b cs0 hb
    by_cases hne : b = H.nb
    · rw [hne]; exact has_push_nb H cs
    · exact has_push cs (h.hdom b cs0 (old b cs0 hb hne).1)
  · intro b cs0 hb
    by_cases hne : b = H.nb
    · subst hne
      obtain rfl := new cs0 hb
      refine ⟨⟨k, 0, l.length⟩, by simp [upd], hks, by simp [hlen], fun i x hx => ?_⟩
      obtain ⟨c, h1, h2⟩ := VRs.get (hl (upd j H.nb ⟨k, 0, l.length⟩)) i x hx
      refine ⟨c, ?_, h2⟩
      simp only [World.cell?, hk, Nat.zero_add, Option.isSome_none, Bool.false_eq_true, if_false, List.getElem?_toArray]
      exact h1
    · obtain ⟨g1, g2⟩ := old b cs0 hb hne
      obtain ⟨loc, h1, h2, h3, h4⟩ := h.cell b cs0 g1
      refine ⟨loc, by simp [upd, hne, h1], h2, h3, fun i x hx => ?_⟩
      obtain ⟨c, h5, h6⟩ := h4 i x hx
      exact ⟨c, h5, VR.mono hext h6⟩
  · intro b cs0 loc hr hb hj i hi
    by_cases hne : b = H.nb
    · subst hne
      obtain rfl := newj loc hj
      simp only at hi
      refine ⟨⟨l[i], ?_⟩, ?_⟩
      · simp only [World.cell?, hk, Nat.zero_add, Option.isSome_none, Bool.false_eq_true, if_false, List.getElem?_toArray]
        exact List.getElem?_eq_getElem hi
      · simp only [World.frozen?, hk, Nat.zero_add]
        simp
    · obtain ⟨g1, g2⟩ := old b cs0 hb hne
      exact h.own b cs0 loc hr g1 (g2 loc hj) i hi
  · intro b b' cs1 cs2 loc loc' hr hbb hb hb' hj hj'
    by_cases hne : b = H.nb
    · have hne' : b' ≠ H.nb := fun e => hbb (hne.trans e.symm)
      subst hne
      obtain rfl := newj loc hj
      obtain ⟨g1, g2⟩ := old b' cs2 hb' hne'
      exact (hno b' cs2 loc' g1 (g2 loc' hj')).symm
    · obtain ⟨g1, g2⟩ := old b cs1 hb hne
      by_cases hne' : b' = H.nb
      · subst hne'
        obtain rfl := newj loc' hj'
        exact hno b cs1 loc g1 (g2 loc hj)
      · obtain ⟨g3, g4⟩ := old b' cs2 hb' hne'
        exact h.apart b b' cs1 cs2 loc loc' hr hbb g1 g3 (g2 loc hj) (g4 loc' hj')
  · intro b cs0 loc hr hb hj
    by_cases hne : b = H.nb
    · subst hne
      obtain rfl := newj loc hj
      exact hg
    · obtain ⟨g1, g2⟩ := old b cs0 hb hne
      exact h.lo b cs0 loc hr g1 (g2 loc hj)
  · rintro x hx ⟨b, cs0, loc, hr, hb, hj, rfl⟩
    by_cases hne : b = H.nb
    · subst hne
      obtain rfl := newj loc hj
      simp only at hx
      omega
    · obtain ⟨g1, g2⟩ := old b cs0 hb hne
      exact T.grow _ hx ⟨b, cs0, loc, hr, g1, g2 loc hj, rfl⟩
  · simp only [upd]
    rw [if_neg (ne_nb (T.next x hx))]
    exact T.old x hx hn

theorem adopt_all {is : List AIns} {n0 : Nat} {blk : Nat → Nat} {w0 w : World} {a : Act} {j0 : JM} {H0 : Heap} (hn0 : n0 = w0.heap.size) (hg : Home.G ≤ w0.heap.size) :
    ∀ (As : List Nat) {X : Nat → Prop} {e e2 : Env} {H H2 : Heap} {j : JM}, As.Nodup → (∀ k ∈ As, X k) → PendB is n0 H blk j w a X → Trans j0 H0 w0 j H w →
      (∀ k ∈ As, ∀ k' ∈ As, k ≠ k' → sameDst (is.getD k default).dst (is.getD k' default).dst = false) →
      (∀ t v, (∀ k ∈ As, (is.getD k default).dst ≠ some t) → lk e t = some v → VR j v (a.tmps.getD t undef)) →
      runIns callF (As.map fun k => is.getD k default) e H = some (e2, H2) → ∃ j2, Trans j0 H0 w0 j2 H2 w ∧ ER j2 e2 a.tmps
  | [], X, e, e2, H, H2, j, _, _, hp, T, _, her, hr => by
    simp only [List.map_nil, runIns, Option.some.injEq, Prod.mk.injEq] at hr
    obtain ⟨rfl, rfl⟩ := hr
    exact ⟨j, T, fun t v hv => her t v (fun k hk => by simp at hk) hv⟩
  | k :: As, X, e, e2, H, H2, j, hnd, hX, hp, T, hdd, her, hr => by
    obtain ⟨d, z, l, ty, h1, h2, h3, h4, h5, h6⟩ := hp.ex k (hX k (by simp))
    have hgd : is.getD k default = ⟨some d, none, .alloc z⟩ := by simp [List.getD, h1]
    simp only [List.map_cons, runIns, hgd, AIns.step, AIns.wanted, AOp.run] at hr
    have T' := T.adopt h4 h3 (by omega) (by omega) (hp.no k (hX k (by simp)))
    have hnd' := List.nodup_cons.1 hnd
    refine adopt_all hn0 hg As (X := fun x => X x ∧ x ≠ k) hnd'.2 (fun x hx => ⟨hX x (by simp [hx]), fun e => hnd'.1 (e ▸ hx)⟩) ⟨fun x hx => hp.ex x hx.1, fun x y hx hy => hp.inj x y hx.1 hy.1, fun x hx b cs loc hb hj => ?_⟩ T'
      (fun x hx y hy => hdd x (by simp [hx]) y (by simp [hy])) (fun t v hn hv => ?_) hr
    · by_cases hne : b = H.nb
      · subst hne
        simp only [upd, if_true, Option.some.injEq] at hj
        subst hj
        exact fun e => hx.2 (hp.inj k x (hX k (by simp)) hx.1 e).symm
      · rw [Heap.get_push, if_neg hne] at hb
        exact hp.no x hx.1 b cs loc hb (by simpa [upd, hne] using hj)
    · rw [lk_put] at hv
      split at hv
      · rename_i hd
        obtain rfl := Option.some.inj hv
        simp only [Option.some.injEq] at hd
        subst hd
        exact ⟨⟨blk k, 0, l.length⟩, by simp [upd], by rw [h2]⟩
      · rename_i hd
        refine (her t v (fun x hx => ?_) hv).mono (upd_ext T.wr _)
        rcases List.mem_cons.1 hx with rfl | hx
        · rw [hgd]; exact hd
        · exact hn x hx

theorem runAl : ∀ {l : List AIns} {e e2 : Env} {H H2 : Heap}, (∀ i ∈ l, ∃ d z, i = ⟨some d, none, .alloc z⟩) → runIns callF l e H = some (e2, H2) → ∀ e', ∃ e2', runIns callF l e' H = some (e2', H2) ∧
    ∀ t, ((∃ i ∈ l, i.dst = some t) → lk e2' t = lk e2 t) ∧ ((∀ i ∈ l, i.dst ≠ some t) → lk e2' t = lk e' t ∧ lk e2 t = lk e t)
  | [], e, e2, H, H2, _, hr, e' => by
    simp only [runIns, Option.some.injEq, Prod.mk.injEq] at hr
    obtain ⟨rfl, rfl⟩ := hr
    exact ⟨e', rfl, fun t => ⟨fun ⟨i, hi, _⟩ => by simp at hi, fun _ => ⟨rfl, rfl⟩⟩⟩
  | i :: l, e, e2, H, H2, ha, hr, e' => by
    obtain ⟨d, z, rfl⟩ := ha i (by simp)
    simp only [runIns, AIns.step, AIns.wanted, AOp.run] at hr ⊢
    obtain ⟨e2', g1, g2⟩ := runAl (fun q hq => ha q (by simp [hq])) hr (putE e' (some d) (.ptr H.nb 0))
    refine ⟨e2', g1, fun t => ⟨fun hx => ?_, fun hx => ?_⟩⟩
    · by_cases h : ∃ i ∈ l, i.dst = some t
      · exact (g2 t).1 h
      · obtain ⟨q, hq, hqt⟩ := hx
        have hd : d = t := by
          rcases List.mem_cons.1 hq with rfl | hq
          · simpa using hqt
          · exact absurd ⟨q, hq, hqt⟩ h
        subst hd
        obtain ⟨a1, a2⟩ := (g2 d).2 (fun q hq e => h ⟨q, hq, e⟩)
        rw [a1, a2, lk_put, lk_put]
        simp
    · obtain ⟨a1, a2⟩ := (g2 t).2 (fun q hq => hx q (by simp [hq]))
      have := hx _ (List.mem_cons_self ..)
      simp only [ne_eq, Option.some.injEq] at this
      rw [a1, a2, lk_put, lk_put]
      simp [this]

theorem split_sorted {p q : Nat → Bool} : ∀ {L : List Nat}, L.Pairwise (· < ·) → (∀ k ∈ L, p k = true ∨ q k = true) → (∀ k, p k = true → q k = true → False) → (∀ a ∈ L, ∀ b ∈ L, p a = true → q b = true → a < b) → L = L.filter p ++ L.filter q
  | [], _, _, _, _ => rfl
  | x :: L, hs, hpq, hd, hlt => by
    obtain ⟨h1, h2⟩ := List.pairwise_cons.1 hs
    have ih := split_sorted h2 (fun k hk => hpq k (by simp [hk])) hd (fun a ha b hb => hlt a (by simp [ha]) b (by simp [hb]))
    rcases hpq x (by simp) with hx | hx
    · have hq : q x = false := by
        cases e : q x with
        | false => rfl
        | true => exact (hd x hx e).elim
      rw [List.filter_cons, List.filter_cons, if_pos hx, if_neg (by rw [hq]; simp), List.cons_append, ← ih]
    · have hp : p x = false := by
        cases e : p x with
        | false => rfl
        | true => exact (hd x e hx).elim
      have hnone : L.filter p = [] := by
        rw [List.filter_eq_nil_iff]
        intro k hk hpk
        have := hlt k (by simp [hk]) x (by simp) hpk hx
        have := h1 k hk
        omega
      rw [List.filter_cons, List.filter_cons, if_neg (by rw [hp]; simp), if_pos hx, hnone, List.nil_append]
      rw [hnone, List.nil_append] at ih
      rw [← ih]

theorem any_soundB (hcall : CallOk P callF) (hmd : CallCls callF md) {j0 : JM} {w0 : World} {H : Heap} {nt : Nat} {ops : Array Oper} {is : List AIns} {Q : Exit → Act → World → Prop}
    (hc : cInss P nt ops ops.toList = some is) (hok : drawOkB md is (ops.toList.map depsOf) = true) (hal : ∀ k, k < is.length → phA is k = true → ∃ o, ops[k]? = some o ∧ isAlloc o = true) {e1 : Env}
    (hfin : ∀ (m : Nat) (L : List Nat) (listed : Array Bool) {e' : Env} {a : Act} {j : JM} {w : World} {blk : Nat → Nat}, L.length = m → listed.size = ops.size → L = (List.range ops.size).filter (fun k => !listed.getD k true) →
      (∀ (k : Nat), listed.getD k false = true → ∀ (l : List Nat), (ops.toList.map depsOf)[k]? = some l → ∀ d ∈ l, listed.getD d false = true) →
      (∀ k, k < ops.size → phR is (masks (ops.toList.map depsOf) []) k = true → listed.getD k true = false) →
      (∀ k ∈ L, phR is (masks (ops.toList.map depsOf) []) k = true ∨ (phP is (masks (ops.toList.map depsOf) []) k = true ∧ (is.getD k default).op.cls md = 0)) →
      ∀ {e2 : Env}, runIns callF ((L.filter (phP is (masks (ops.toList.map depsOf) []))).map fun k => is.getD k default) e' H = some (e2, H) → Eqv e1 e2 → Trans j0 H w0 j H w → St ds j nt e' a → PendB is w0.heap.size H blk j w a (fun k => k < ops.size ∧ phA is k = true) → wpAny P .any ops Q m listed a w) :
    ∀ (m : Nat) (L : List Nat) (listed : Array Bool) {e e' : Env} {a : Act} {j : JM} {w : World} {blk : Nat → Nat}, L.length = m → listed.size = ops.size →
      L = (List.range ops.size).filter (fun k => !listed.getD k true) →
      (∀ (k : Nat), listed.getD k false = true → ∀ (l : List Nat), (ops.toList.map depsOf)[k]? = some l → ∀ d ∈ l, listed.getD d false = true) →
      (∀ k, k < ops.size → phR is (masks (ops.toList.map depsOf) []) k = true → listed.getD k true = false) →
      Trans j0 H w0 j H w → St ds j nt e a → (∀ k, k < ops.size → phA is k = true → ∀ d, (is.getD k default).dst = some d → lk e d = none) →
      runIns callF ((L.filter (phP is (masks (ops.toList.map depsOf) []))).map fun k => is.getD k default) e H = some (e', H) → Eqv e1 e' →
      PendB is w0.heap.size H blk j w a (fun k => k < ops.size ∧ phA is k = true ∧ listed.getD k true = true) → wpAny P .any ops Q m listed a w := by
  have hlen := inss_length hc
  simp only [Array.length_toList] at hlen
  have hdl : (ops.toList.map depsOf).length = ops.size := by simp
  generalize hms : masks (ops.toList.map depsOf) [] = ms at *
  have hspec := fun k hk => allBelow_spec hok k hk
  have hsp1 : ∀ j, j < is.length → ((ops.toList.map depsOf).getD j []).all (fun d => Nat.blt d j) = true ∧ (phP is ms j = true → (is.getD j default).op.cls md ≤ 1) := by
    intro j hj
    have := hspec j hj
    simp only [Bool.and_eq_true, Bool.or_eq_true, Bool.not_eq_true', Nat.ble_eq, hms] at this
    exact ⟨this.1.1, fun h => this.1.2.resolve_left (by rw [h]; simp)⟩
  have hsp2 : ∀ j i, j < is.length → i < is.length → (phR is ms j = true → phR is ms i = true ∨ (ms.getD j 0).testBit i = true ∨ (phP is ms i = true ∧ (is.getD i default).op.cls md = 0)) ∧
      (i < j → phP is ms i = true → phP is ms j = true → (ms.getD j 0).testBit i = true ∨ commutes md (is.getD i default) (is.getD j default) = true) ∧
      (phP is ms j = true → phA is i = true → dstIn (is.getD i default).dst (is.getD j default).uses = false ∧ sameDst (is.getD i default).dst (is.getD j default).dst = false) ∧
      (phA is i = true → phA is j = true → i ≠ j → sameDst (is.getD i default).dst (is.getD j default).dst = false) := by
    intro j i hj hi
    have h0 := hspec j hj
    simp only [Bool.and_eq_true, hms] at h0
    have h1 := allBelow_spec h0.2 i hi
    simp only [Bool.and_eq_true, Bool.or_eq_true, Bool.not_eq_true', Bool.and_eq_false_iff, Bool.or_eq_false_iff, Nat.beq_eq] at h1
    obtain ⟨⟨⟨⟨a1, _⟩, a2⟩, a3⟩, a4⟩ := h1
    refine ⟨fun h => a1.resolve_left (by rw [h]; simp), fun h1 h2 h3 => a2.resolve_left ?_, fun h1 h2 => a3.resolve_left ?_, fun h1 h2 h3 => ?_⟩
    · rintro (h | h)
      · have : Nat.blt i j = true := by rw [Nat.blt_eq]; exact h1
        rw [this] at h; simp at h
      · rcases h.1 with h | h
        · rw [h2] at h; simp at h
        · rw [h3] at h; simp at h
    · rintro (h | h)
      · rw [h1] at h; simp at h
      · rw [h2] at h; simp at h
    · rcases a4 with (h | h) | h | h
      · rw [h1] at h; simp at h
      · rw [h2] at h; simp at h
      · exact absurd h h3
      · exact h
  have hlt : ∀ (i : Nat) (l : List Nat), (ops.toList.map depsOf)[i]? = some l → ∀ d ∈ l, d < i := by
    intro i l hl d hd
    have hi : i < is.length := by
      rcases Nat.lt_or_ge i is.length with h' | h'
      · exact h'
      · rw [List.getElem?_eq_none (by omega)] at hl; simp at hl
    have := (hsp1 i hi).1
    simp only [List.getD, hl, Option.getD_some, List.all_eq_true, Nat.blt_eq] at this
    exact this d hd
  have hdeps : ∀ (i : Nat) (o : Oper), ops[i]? = some o → (ops.toList.map depsOf)[i]? = some (depsOf o) := by
    intro i o ho
    rw [List.getElem?_map, Array.getElem?_toList, ho]
    rfl
  have hsorted : ∀ listed : Array Bool, ((List.range ops.size).filter (fun k => !listed.getD k true)).Pairwise (· < ·) := fun listed => (List.pairwise_lt_range).filter _
  have hready : ∀ listed : Array Bool, Region.ready .any ops listed = ((List.range ops.size).filter (fun k => !listed.getD k true)).filter (fun i => ((ops[i]?).map (·.after.all fun e => !Region.binds .any e || listed.getD e.on false)).getD false) := by
    intro listed
    unfold Region.ready
    rw [List.filter_filter]
    congr 1
    funext i
    rw [Bool.and_comm]
  have hq : ∀ (listed : Array Bool) (i : Nat) (o : Oper), ops[i]? = some o → (((ops[i]?).map (·.after.all fun e => !Region.binds .any e || listed.getD e.on false)).getD false = true ↔ ∀ d ∈ depsOf o, listed.getD d false = true) := by
    intro listed i o ho
    simp only [ho, Option.map_some, Option.getD_some, depsOf, List.mem_map, List.mem_filter, Array.mem_toList_iff, Array.all_eq_true_iff_forall_mem, Bool.or_eq_true, Bool.not_eq_true']
    constructor
    · rintro h d ⟨ed, ⟨h1, h2⟩, rfl⟩
      rcases h ed h1 with h3 | h3
      · rw [h2] at h3; simp at h3
      · exact h3
    · intro h ed h1
      cases hb : Region.binds .any ed
      · exact .inl rfl
      · exact .inr (h ed.on ⟨ed, ⟨h1, hb⟩, rfl⟩)
  intro m
  induction m with
  | zero =>
    intro L listed e e' a j w blk hL hsz hLe hcl hR T hs hno hr heq hp
    have hnil : L = [] := List.eq_nil_of_length_eq_zero hL
    have hall : ∀ k, k < ops.size → listed.getD k true = true := by
      intro k hk
      cases hb : listed.getD k true with
      | true => rfl
      | false =>
        have : k ∈ L := by rw [hLe]; exact List.mem_filter.2 ⟨List.mem_range.2 hk, by simp [hb]⟩
        rw [hnil] at this; simp at this
    rw [hnil] at hr
    simp only [List.filter_nil, List.map_nil, runIns, Option.some.injEq, Prod.mk.injEq] at hr
    obtain ⟨rfl, _⟩ := hr
    refine hfin 0 L listed hL hsz hLe hcl hR (fun k hk => by rw [hnil] at hk; simp at hk) (by rw [hnil]; rfl) heq T hs ⟨fun k hk => hp.ex k ⟨hk.1, hk.2, hall k hk.1⟩, fun k k' hk hk' => hp.inj k k' ⟨hk.1, hk.2, hall k hk.1⟩ ⟨hk'.1, hk'.2, hall k' hk'.1⟩, fun k hk => hp.no k ⟨hk.1, hk.2, hall k hk.1⟩⟩
  | succ m ih =>
    intro L listed e e' a j w blk hL hsz hLe hcl hR T hs hno hr heq hp
    have hmemL : ∀ k, k ∈ L ↔ k < ops.size ∧ listed.getD k true = false := by
      intro k
      rw [hLe, List.mem_filter, List.mem_range]
      simp
    by_cases hdone : ∀ k ∈ L, phR is ms k = true ∨ (phP is ms k = true ∧ (is.getD k default).op.cls md = 0)
    · -- nothing but the rest is left
      have hA : ∀ k, k < ops.size → phA is k = true → listed.getD k true = true := by
        intro k hk ha
        cases hb : listed.getD k true with
        | true => rfl
        | false =>
          have := hdone k ((hmemL k).2 ⟨hk, hb⟩)
          unfold phR phP at this
          rw [ha] at this
          simp at this
      exact hfin (m + 1) L listed hL hsz hLe hcl hR hdone hr heq T hs ⟨fun k hk => hp.ex k ⟨hk.1, hk.2, hA k hk.1 hk.2⟩, fun k k' hk hk' => hp.inj k k' ⟨hk.1, hk.2, hA k hk.1 hk.2⟩ ⟨hk'.1, hk'.2, hA k' hk'.1 hk'.2⟩, fun k hk => hp.no k ⟨hk.1, hk.2, hA k hk.1 hk.2⟩⟩
    refine ⟨fun hemp => ?_, fun i hi => ?_⟩
    · -- something is always ready
      exfalso
      cases hLc : L with
      | nil => simp [hLc] at hL
      | cons l0 rest =>
        have hmem : l0 ∈ (List.range ops.size).filter (fun k => !listed.getD k true) := by rw [← hLe, hLc]; simp
        have hl0 := (List.mem_filter.1 hmem).1
        rw [List.mem_range] at hl0
        have ho : ops[l0]? = some ops[l0] := Array.getElem?_eq_getElem hl0
        have hsrt := hsorted listed
        rw [← hLe, hLc, List.pairwise_cons] at hsrt
        have hin : l0 ∈ Region.ready .any ops listed := by
          rw [hready]
          refine List.mem_filter.2 ⟨hmem, (hq listed l0 _ ho).2 (fun d hd => ?_)⟩
          have hdl0 := hlt l0 _ (hdeps l0 _ ho) d hd
          rw [getD_agree listed d (by omega) false true]
          cases hbv : listed.getD d true with
          | true => rfl
          | false =>
            have : d ∈ L := by rw [hLe]; exact List.mem_filter.2 ⟨List.mem_range.2 (by omega), by simp [hbv]⟩
            rw [hLc] at this
            rcases List.mem_cons.1 this with h | h
            · omega
            · have := hsrt.1 d h; omega
        rw [hemp] at hin
        simp at hin
    · rw [hready, ← hLe] at hi
      obtain ⟨hiL, hiq⟩ := List.mem_filter.1 hi
      have hir : i < ops.size := ((hmemL i).1 hiL).1
      have hiu : listed.getD i true = false := ((hmemL i).1 hiL).2
      have ho : ops[i]? = some ops[i] := Array.getElem?_eq_getElem hir
      have hdi := (hq listed i _ ho).1 hiq
      -- what must come first is listed
      have hfirst : ∀ p, p < ops.size → (ms.getD i 0).testBit p = true → listed.getD p true = true := by
        intro p hp' hb
        rw [← hms] at hb
        have hlp := listed_of_mask (n := ops.size) (listed := fun k => listed.getD k false) hdl hlt hcl p i _ (hdeps i _ ho) hdi hb
        rw [getD_agree listed p (by omega) true false]
        exact hlp
      have hnR : phR is ms i = false := by
        cases hb : phR is ms i with
        | false => rfl
        | true =>
          exfalso
          refine hdone (fun k hk => ?_)
          obtain ⟨hk1, hk2⟩ := (hmemL k).1 hk
          rcases (hsp2 i k (by omega) (by omega)).1 hb with h | h | h
          · exact .inl h
          · have := hfirst k hk1 h
            rw [hk2] at this
            simp at this
          · exact .inr h
      have hup : ∀ d, listed.getD d false = true → (listed.setIfInBounds i true).getD d false = true := by
        intro d hd
        simp only [Array.getD_eq_getD_getElem?, Array.getElem?_setIfInBounds] at hd ⊢
        by_cases hid : i = d
        · subst hid
          have hlt3 : i < listed.size := by omega
          simp [hlt3]
        · simpa [hid] using hd
      have hcl' : ∀ (k : Nat), (listed.setIfInBounds i true).getD k false = true → ∀ (l : List Nat), (ops.toList.map depsOf)[k]? = some l → ∀ d ∈ l, (listed.setIfInBounds i true).getD d false = true := by
        intro k hk l hl d hd
        by_cases hki : k = i
        · subst hki
          rw [hdeps k _ ho] at hl
          obtain rfl := Option.some.inj hl
          exact hup d (hdi d hd)
        · refine hup d (hcl k ?_ l hl d hd)
          simp only [Array.getD_eq_getD_getElem?, Array.getElem?_setIfInBounds] at hk ⊢
          simpa [Ne.symm hki] using hk
      have hset : ∀ k, k < ops.size → (listed.setIfInBounds i true).getD k true = if k = i then true else listed.getD k true := by
        intro k hk
        simp only [Array.getD_eq_getD_getElem?, Array.getElem?_setIfInBounds]
        by_cases hki : i = k
        · subst hki
          have hlt3 : i < listed.size := by omega
          simp [hlt3]
        · simp [hki, Ne.symm hki]
      have hL' : L.filter (fun k => k ≠ i) = (List.range ops.size).filter (fun k => !(listed.setIfInBounds i true).getD k true) := by
        rw [hLe, List.filter_filter]
        refine List.filter_congr (fun k hk => ?_)
        rw [hset k (List.mem_range.1 hk)]
        by_cases hki : k = i
        · simp [hki]
        · simp [hki]
      have hnodup : L.Nodup := by rw [hLe]; exact List.nodup_range.filter _
      have hlen' : (L.filter (fun k => k ≠ i)).length = m := by
        obtain ⟨pre, post, hsplit⟩ := List.append_of_mem hiL
        rw [hsplit] at hnodup hL ⊢
        rw [List.nodup_append] at hnodup
        have hn2 := List.nodup_cons.1 hnodup.2.1
        rw [List.filter_append, List.filter_cons]
        simp only [ne_eq, not_true_eq_false, decide_false, Bool.false_eq_true, if_false]
        rw [List.filter_eq_self.2 (fun p hp => by have := hnodup.2.2 p hp i (by simp); simpa using this), List.filter_eq_self.2 (fun p hp => by simp only [decide_not, Bool.not_eq_true', decide_eq_false_iff_not]; rintro rfl; exact hn2.1 hp)]
        simp at hL ⊢
        omega
      have hR' : ∀ k, k < ops.size → phR is ms k = true → (listed.setIfInBounds i true).getD k true = false := by
        intro k hk h
        rw [hset k hk]
        by_cases hki : k = i
        · subst hki; rw [hnR] at h; simp at h
        · rw [if_neg hki]; exact hR k hk h
      have hil : i < is.length := by omega
      have hid : is.getD i default = is[i] := by simp [List.getD, List.getElem?_eq_getElem hil]
      obtain ⟨o, ho', hci⟩ := inss_get hc i is[i] (List.getElem?_eq_getElem hil)
      rw [Array.getElem?_toList, ho] at ho'
      obtain rfl := Option.some.inj ho'
      by_cases hA : phA is i = true
      · -- a block of its own
        obtain ⟨d, z, h1, h2⟩ := phA_spec hA
        obtain ⟨o, ho2, hao⟩ := hal i hil hA
        rw [ho] at ho2
        obtain rfl := Option.some.inj ho2
        have hisi : is[i] = ⟨some d, none, .alloc z⟩ := by rw [← hid]; exact h2
        rw [hisi] at hci
        obtain ⟨ty, hop, hz, hdst, hg, hdn⟩ := ins_alloc hci hao
        obtain ⟨zv, z1, z2, _⟩ := zero_sound hz
        have hwant : Region.wanted ops[i] (yielded ops a.tmps) = true := by simp [Region.wanted, hg]
        unfold wpOp
        simp only [ho]
        split
        · refine .inl ?_
          unfold Oper.wp
          have hrun : (execOp a.eval ops[i]).run P w = .ok (.value (.pointer (some ⟨w.heap.size, 0, none⟩))) (w.alloc (.cells zv.cells.toList.toArray ty)) := by
            simp [execOp, hop, Instr.alloc, run_zeroV z1, newVar, newRow]
          rw [hrun]
          have hsz2 : (w.alloc (.cells zv.cells.toList.toArray ty)).heap.size = w.heap.size + 1 := by
            show (w.heap.push _).size = _
            simp
          have hold : ∀ k, k < w.heap.size → (w.alloc (.cells zv.cells.toList.toArray ty)).heap[k]? = w.heap[k]? := fun k hk => by
            show (w.heap.push _)[k]? = _
            rw [Array.getElem?_push, if_neg (by omega)]
          have hnew : (w.alloc (.cells zv.cells.toList.toArray ty)).heap[w.heap.size]? = some (.cells zv.cells.toList.toArray ty) := by
            show (w.heap.push _)[w.heap.size]? = _
            simp
          have hlkd : lk e d = none := hno i hir hA d (by rw [h2])
          have hput : ∀ t, t ≠ d → (a.put ops[i].dst (.pointer (some ⟨w.heap.size, 0, none⟩))).tmps.getD t undef = a.tmps.getD t undef := by
            intro t ht
            rw [hdst]
            simp only [Act.put, Array.getD_eq_getD_getElem?]
            rw [Array.getElem?_setIfInBounds_ne (Ne.symm ht)]
          have hputd : (a.put ops[i].dst (.pointer (some ⟨w.heap.size, 0, none⟩))).tmps.getD d undef = .pointer (some ⟨w.heap.size, 0, none⟩) := by
            rw [hdst]
            simp only [Act.put, Array.getD_eq_getD_getElem?]
            rw [Array.getElem?_setIfInBounds_self, if_pos (by have := hs.size; omega)]
            rfl
          have hs' : St ds j nt e (a.put ops[i].dst (.pointer (some ⟨w.heap.size, 0, none⟩))) := by
            refine ⟨fun t v hv => ?_, ?_, ?_⟩
            · have ht : t ≠ d := fun e2 => by rw [e2, hlkd] at hv; simp at hv
              rw [hput t ht]
              exact hs.er t v hv
            · rw [hdst]; simpa [Act.put] using hs.size
            · rw [hdst]; exact hs.defers
          have hfilter : (L.filter (fun k => k ≠ i)).filter (phP is ms) = L.filter (phP is ms) := by
            rw [List.filter_filter]
            refine List.filter_congr (fun k hk => ?_)
            by_cases hki : k = i
            · subst hki
              have : phP is ms k = false := by unfold phP; rw [hA]; rfl
              rw [this]; rfl
            · simp [hki]
          refine ih (L.filter (fun k => k ≠ i)) (listed.setIfInBounds i true) (blk := fun k => if k = i then w.heap.size else blk k) hlen' (by simpa using hsz) hL' hcl' hR' (T.trans (alloc_trans T.wr _)) hs' hno (by rw [hfilter]; exact hr) heq ⟨?_, ?_, ?_⟩
          · rintro k ⟨hk1, hk2, hk3⟩
            rw [hset k hk1] at hk3
            by_cases hki : k = i
            · subst hki
              refine ⟨d, z, zv.cells.toList, ty, h1, ?_, ?_, z2, ?_, ?_⟩
              · rw [if_pos rfl]; exact hputd
              · rw [if_pos rfl]; exact hnew
              · rw [if_pos rfl]; exact T.size
              · rw [if_pos rfl]; omega
            · rw [if_neg hki] at hk3
              obtain ⟨d', z', l, ty', q1, q2, q3, q4, q5, q6⟩ := hp.ex k ⟨hk1, hk2, hk3⟩
              have hdd : d' ≠ d := by
                have := (hsp2 i k hil (by omega)).2.2.2 hk2 hA hki
                rw [h2, show is.getD k default = ⟨some d', none, .alloc z'⟩ by simp [List.getD, q1]] at this
                rintro rfl
                simp [sameDst] at this
              refine ⟨d', z', l, ty', q1, ?_, ?_, q4, ?_, ?_⟩
              · rw [hput d' hdd, if_neg hki]; exact q2
              · rw [if_neg hki, hold _ q6]; exact q3
              · rw [if_neg hki]; exact q5
              · rw [if_neg hki]; omega
          · rintro k k' ⟨hk1, hk2, hk3⟩ ⟨hk1', hk2', hk3'⟩ hbb
            rw [hset k hk1] at hk3
            rw [hset k' hk1'] at hk3'
            by_cases hki : k = i
            · by_cases hki' : k' = i
              · rw [hki, hki']
              · rw [if_neg hki'] at hk3'
                obtain ⟨_, _, _, _, _, _, _, _, _, q6⟩ := hp.ex k' ⟨hk1', hk2', hk3'⟩
                simp only [hki, if_true, if_neg hki'] at hbb
                omega
            · rw [if_neg hki] at hk3
              by_cases hki' : k' = i
              · obtain ⟨_, _, _, _, _, _, _, _, _, q6⟩ := hp.ex k ⟨hk1, hk2, hk3⟩
                simp only [hki', if_true, if_neg hki] at hbb
                omega
              · rw [if_neg hki'] at hk3'
                simp only [if_neg hki, if_neg hki'] at hbb
                exact hp.inj k k' ⟨hk1, hk2, hk3⟩ ⟨hk1', hk2', hk3'⟩ hbb
          · rintro k ⟨hk1, hk2, hk3⟩ b cs loc hb hj
            rw [hset k hk1] at hk3
            by_cases hki : k = i
            · simp only [hki, if_true]
              obtain ⟨loc', q1, q2, _⟩ := T.wr.cell b cs hb
              rw [hj] at q1
              obtain rfl := Option.some.inj q1
              omega
            · rw [if_neg hki] at hk3
              simp only [if_neg hki]
              exact hp.no k ⟨hk1, hk2, hk3⟩ b cs loc hb hj
        · rename_i hw; exact absurd hwant hw
      · -- a statement that needs none of them
        have hPi : phP is ms i = true := by
          unfold phP
          rw [hnR]
          have : phA is i = false := by simpa using hA
          rw [this]; rfl
        have hiP : i ∈ L.filter (phP is ms) := List.mem_filter.2 ⟨hiL, hPi⟩
        obtain ⟨pre, post, hsplit⟩ := List.append_of_mem hiP
        have hsrt : (L.filter (phP is ms)).Pairwise (· < ·) := by rw [hLe]; exact (hsorted listed).filter _
        rw [hsplit, List.pairwise_append, List.pairwise_cons] at hsrt
        have hpre : ∀ p ∈ pre, p < i := fun p hp => hsrt.2.2 p hp i (by simp)
        have hpost : ∀ p ∈ post, i < p := fun p hp => hsrt.2.1.1 p hp
        have hcomm : ∀ x ∈ pre.map (fun k => is.getD k default), commutes md x (is.getD i default) = true := by
          intro x hx
          obtain ⟨p, hp', rfl⟩ := List.mem_map.1 hx
          have hpm : p ∈ L.filter (phP is ms) := by rw [hsplit]; simp [hp']
          obtain ⟨hpL, hpP⟩ := List.mem_filter.1 hpm
          obtain ⟨hp1, hp2⟩ := (hmemL p).1 hpL
          rcases (hsp2 i p hil (by omega)).2.1 (hpre p hp') hpP hPi with h | h
          · have := hfirst p hp1 h
            rw [hp2] at this
            simp at this
          · exact h
        rw [hsplit, List.map_append, List.map_cons] at hr
        obtain ⟨e2, H1, e3, hst, hrest, heq2⟩ := bubble hmd hcomm hr
        have hcls := (hsp1 i hil).2 hPi
        obtain ⟨v, hv, rfl⟩ := step_val.1 hst
        have hH1 : H1 = H := by
          rcases Nat.lt_or_ge ((is.getD i default).op.cls md) 1 with h0 | h0
          · exact (val_pure hmd (by omega) hv).1
          · exact val_reads hmd (by omega) hv
        subst hH1
        have hfilter : (L.filter (fun k => k ≠ i)).filter (phP is ms) = pre ++ post := by
          rw [List.filter_filter, show (fun k => (phP is ms k && decide (k ≠ i))) = (fun k => (decide (k ≠ i) && phP is ms k)) from funext fun k => Bool.and_comm _ _, ← List.filter_filter, hsplit, List.filter_append, List.filter_cons]
          simp only [ne_eq, not_true_eq_false, decide_false, Bool.false_eq_true, if_false]
          rw [List.filter_eq_self.2 (fun p hp => by have := hpre p hp; simp; omega), List.filter_eq_self.2 (fun p hp => by have := hpost p hp; simp; omega)]
        rw [hid] at hst hcls hv hrest
        have hdstA : ∀ k, k < ops.size → phA is k = true → ∀ d, (is.getD k default).dst = some d → is[i].dst ≠ some d := by
          intro k hk ha d hd h
          have := ((hsp2 i k hil (by omega)).2.2.1 hPi ha).2
          rw [hd, hid, h] at this
          simp [sameDst] at this
        have hod : ops[i].dst = is[i].dst := by
          unfold cIns at hci
          split at hci
          · simp at hci
          · obtain ⟨_, hci⟩ := if_some hci
            split at hci
            · exact congrArg AIns.dst (Option.some.inj hci)
            · split at hci
              · obtain ⟨_, hci⟩ := if_some hci
                exact congrArg AIns.dst (Option.some.inj hci)
              · simp at hci
        have key := ins_soundP (Q := Q) (K := wpAny P .any ops Q m (listed.setIfInBounds i true)) hcall hci T.wr hs hst (fun j' c w' htr hs' => ?_)
        · unfold wpOp
          simp only [ho]
          split
          · rename_i hwant; rw [if_pos hwant] at key; exact .inl key
          · rename_i hwant; rw [if_neg hwant] at key; exact key
        · refine ih (L.filter (fun k => k ≠ i)) (listed.setIfInBounds i true) (blk := blk) hlen' (by simpa using hsz) hL' hcl' hR' (T.trans htr) hs' (fun k hk ha d hd => ?_) (by rw [hfilter, List.map_append]; exact hrest) (heq.trans heq2) ⟨?_, ?_, ?_⟩
          · rw [lk_put, if_neg (hdstA k hk ha d hd)]
            exact hno k hk ha d hd
          · rintro k ⟨hk1, hk2, hk3⟩
            rw [hset k hk1] at hk3
            have hki : k ≠ i := fun e => hA (e ▸ hk2)
            rw [if_neg hki] at hk3
            obtain ⟨d', z', l, ty', q1, q2, q3, q4, q5, q6⟩ := hp.ex k ⟨hk1, hk2, hk3⟩
            have hdd : ops[i].dst ≠ some d' := by
              rw [hod]
              exact hdstA k hk1 hk2 d' (by simp [List.getD, q1])
            refine ⟨d', z', l, ty', q1, ?_, ?_, q4, q5, Nat.lt_of_lt_of_le q6 htr.size⟩
            · rw [← q2]
              cases hdo : ops[i].dst with
              | none => rfl
              | some t =>
                simp only [Act.put, Array.getD_eq_getD_getElem?]
                rw [Array.getElem?_setIfInBounds_ne (fun e => hdd (by rw [hdo, e]))]
            · rw [htr.keep _ q6 ?_]
              · exact q3
              · rintro ⟨b, cs, loc, _, hb, hj, hbl⟩
                exact hp.no k ⟨hk1, hk2, hk3⟩ b cs loc hb hj hbl
          · rintro k k' ⟨hk1, hk2, hk3⟩ ⟨hk1', hk2', hk3'⟩
            rw [hset k hk1, if_neg (fun e : k = i => hA (e ▸ hk2))] at hk3
            rw [hset k' hk1', if_neg (fun e : k' = i => hA (e ▸ hk2'))] at hk3'
            exact hp.inj k k' ⟨hk1, hk2, hk3⟩ ⟨hk1', hk2', hk3'⟩
          · rintro k ⟨hk1, hk2, hk3⟩ b cs loc hb hj
            rw [hset k hk1, if_neg (fun e : k = i => hA (e ▸ hk2))] at hk3
            obtain ⟨loc', q1, _⟩ := T.wr.cell b cs hb
            have := htr.ext b loc' q1
            rw [hj] at this
            obtain rfl := Option.some.inj this
            exact hp.no k ⟨hk1, hk2, hk3⟩ b cs loc hb q1

/-! ### code -/
def exRel : AEx → Exit → Prop
  | .normal, .normal => True
  | .exit a, .exit b => a = b
  | .ret, .ret => True
  | _, _ => False

def CPost (ds : List Deferred) (j : JM) (H : Heap) (w : World) (nt : Nat) (ex : AEx) (e' : Env) (H' : Heap) (x : Exit) (a' : Act) (w' : World) : Prop :=
  exRel ex x ∧ ∃ j', Trans j H w j' H' w' ∧ St ds j' nt e' a'

/-- the code, in the evaluator's form -/
def cC (P : Program) (md : Nat → Nat) (nt : Nat) : Code → Option ACode
  | .skip => some .skip
  | .region _ ops draw => match cInss P nt ops ops.toList with
    | some is => if draw then
        let deps := ops.toList.map depsOf
        let conf := confOf md is deps
        if drawOkD md conf is deps && staysB conf is then some (if conf.isEmpty then .region is else .regionD is conf) else
        if drawOkB md is deps && ((List.range is.length).all fun k => !phA is k || match ops[k]? with | some o => isAlloc o | none => false) then some (.region (canonB is (masks deps []))) else none
      else some (.region is)
    | none => none
  | .seq a b => match cC P md nt a, cC P md nt b with
    | some a, some b => some (.seq a b)
    | _, _ => none
  | .cond c a b => match cOpd c, cC P md nt a, cC P md nt b with
    | some c, some a, some b => some (.cond c a b)
    | _, _, _ => none
  | .block id b => match cC P md nt b with
    | some b => some (.block id b)
    | none => none
  | .loop b => match cC P md nt b with
    | some b => some (.loop b)
    | none => none
  | .exit id => some (.exit id)
  | .scope b => cC P md nt b
  | .label _ => some .skip
  | .ret => some .ret
  | _ => none

/-! ### the laws of the walk, in a round's frame too -/
/-- the wide fence, of a function's frame (none) or of a round's -/
abbrev FR (rd : Option Nat) : Fence := { Fence.wide with round := rd }

theorem op_nodefer {nt : Nat} {ops : Array Oper} {o : Oper} {i : AIns} (h : cIns P nt ops o = some i) : ∀ c, o.op ≠ .defer c := by
  intro c hc
  unfold cIns at h
  split at h
  · simp at h
  · rename_i p hp
    simp [hc, cOp] at hp

theorem ops_nodefer {nt : Nat} {ops : Array Oper} {l : List Oper} {is : List AIns} (h : cInss P nt ops l = some is) : ∀ o ∈ l, ∀ c, o.op ≠ .defer c := by
  induction l generalizing is with
  | nil => intro o ho; simp at ho
  | cons x l ih =>
    simp only [cInss] at h
    split at h
    · rename_i i0 h1
      split at h
      · rename_i is' h2
        intro o ho
        rcases List.mem_cons.1 ho with rfl | ho
        · exact op_nodefer h1
        · exact ih h2 o ho
      · simp at h
    · simp at h

theorem ops_in {rd : Option Nat} {n : Nat} {ops : Array Oper} {Q : Exit → Act → World → Prop} (hQ : ¬ LetsOut Q) (hd : ∀ (i : Nat) (o : Oper), ops[i]? = some o → ∀ c, o.op ≠ .defer c) :
    ∀ (L : List Nat) (a : Act) (w : World), wpOps P ops Q L a w → wpOpsIn (FR rd) n P ops Q L a w
  | [], a, w, h => h
  | i :: rest, a, w, h => by
    simp only [wpOps] at h
    simp only [wpOpsIn]
    cases ho : ops[i]? with
    | none => simp only [ho] at h ⊢; exact ops_in hQ hd rest a w h
    | some o =>
      simp only [ho] at h ⊢
      split
      · rename_i hw
        rw [if_pos hw] at h
        have h := h.resolve_right (fun h => hQ h.2)
        refine ⟨fun _ _ => trivial, ?_⟩
        rw [Oper.semAt_eq _ _ _ (hd i o ho)]
        unfold Oper.wp at h
        generalize (execOp a.eval o).run P w = r at h ⊢
        unfold Oper.upon at h
        split at h
        · exact ops_in hQ hd rest _ _ h
        · exact ops_in hQ hd rest _ _ h
        · exact ops_in hQ hd rest _ _ h
        · refine ⟨fun h => by simp [Fence.wide] at h, (callsIn_wide (n := n - 1)).2 (h.mono ?_)⟩
          intro e w1 h1
          cases e with
          | returned v => exact ops_in hQ hd rest _ _ h1
          | panicked ch => exact h1
          | outgrown => exact h1
        · refine ⟨fun h => by simp [Fence.wide] at h, fun c cs _ => ?_⟩
          obtain ⟨v, w1, r, st⟩ := h c cs
          exact ⟨v, w1, ops_in hQ hd rest _ _ r, stepsIn_wide.2 st⟩
        · exact h
        · exact h.elim
      · rename_i hw
        rw [if_neg hw] at h
        exact ⟨fun _ _ => trivial, ops_in hQ hd rest _ _ h⟩

theorem in_region_list {rd : Option Nat} {n id : Nat} {ops : Array Oper} {Q : Exit → Act → World → Prop} {a : Act} {w : World} (hQ : ¬ LetsOut Q) (hd : ∀ o ∈ ops.toList, ∀ c, o.op ≠ .defer c)
    (h : wpList P ops Q ops.toList a w) : (Code.region id ops false).wpIn (FR rd) n P Q a w :=
  wpIn_region (ops_in hQ (fun i o ho => hd o (by rw [← Array.getElem?_toList] at ho; exact List.mem_of_getElem? ho)) _ _ _
    (by rw [List.range_eq_range', ← Array.length_toList, wpOps_eq_wpList ops.toList 0 (by simp)]; exact h))

theorem in_region_any {rd : Option Nat} {n id : Nat} {ops : Array Oper} {Q : Exit → Act → World → Prop} {a : Act} {w : World} (hQ : ¬ LetsOut Q) (hd : ∀ o ∈ ops.toList, ∀ c, o.op ≠ .defer c)
    (hm : P.follows .mixedOrders = true) (h : wpAny P .any ops Q ops.size (Array.replicate ops.size false) a { w with drawn := w.drawn + 1 }) : (Code.region id ops true).wpIn (FR rd) n P Q a w :=
  wpIn_region_draw fun t => ops_in hQ (fun i o ho => hd o (by rw [← Array.getElem?_toList] at ho; exact List.mem_of_getElem? ho)) _ _ _ (by
    simp only [Region.schedule, hm, Bool.true_or, if_true]
    exact wpAny_sound ops.size t _ a _ h)

theorem stepR_scope {b : Frame} {a : Act} {k : List Item} {cs : List Frame} {w : World} {c : Code} : step P (lone (b.atR a (.code (.scope c) :: k)) cs w) = .next (lone (b.atR a (.code c :: .inScope c :: k)) cs w) :=
  step_lone_go (by simp [stepG, stepG.exec, Frame.atR])
theorem stepR_inScope {b : Frame} {a : Act} {k : List Item} {cs : List Frame} {w : World} {c : Code} : step P (lone (b.atR a (.inScope c :: k)) cs w) = .next (lone (b.atR a k) cs w) :=
  step_lone_go (by simp [stepG, stepG.exec, Frame.atR])

theorem in_scope {F : Fence} {n : Nat} {c : Code} {Q : Exit → Act → World → Prop} {a : Act} {w : World} (h : c.wpIn F n P (Exit.noGoto Q) a w) : (Code.scope c).wpIn F n P Q a w := by
  intro b k cs hro hb hr
  have h0 : (lone (b.atR a (.code (.scope c) :: k)) cs w).fenced P F := fenced_calm hb hr rfl
  obtain ⟨e, a₁, w₁, hq, harr⟩ := h b (.inScope c :: k) cs hro hb hr
  cases e with
  | normal => exact ⟨.normal, a₁, w₁, hq, .head h0 stepR_scope (StepsIn.trans harr (.one (fenced_calm hb hr rfl) stepR_inScope))⟩
  | exit id' =>
    have hx : exitTo id' (.inScope c :: k) = exitTo id' k := by simp [exitTo]
    exact ⟨.exit id', a₁, w₁, hq, fun k' hk => .head h0 stepR_scope (harr.1 k' (by rw [hx]; exact hk)),
      fun hr' hk => let ⟨k₁, h1, h2⟩ := harr.2 hr' (by rw [hx]; exact hk); ⟨k₁, h1, .head h0 stepR_scope h2⟩⟩
  | goto l => exact hq.elim
  | ret => exact ⟨_, a₁, w₁, hq, .of_steps (.one h0 stepR_scope) harr⟩
  | panic ch => exact ⟨_, a₁, w₁, hq, .of_steps (.one h0 stepR_scope) harr⟩
  | outgrown => exact ⟨_, a₁, w₁, hq, .of_steps (.one h0 stepR_scope) harr⟩

theorem least_of {p : Nat → Prop} : ∀ n, p n → ∃ m, p m ∧ ∀ k, p k → m ≤ k := by
  intro n
  induction n using Nat.strongRecOn with
  | _ n ih =>
    intro hn
    by_cases h : ∃ m, m < n ∧ p m
    · obtain ⟨m, h1, h2⟩ := h; exact ih m h1 h2
    · exact ⟨n, hn, fun k hk => Nat.le_of_not_lt (fun hlt => h ⟨k, hlt, hk⟩)⟩

open Classical in
noncomputable def leastN (p : Nat → Prop) : Nat := if h : ∃ m, p m ∧ ∀ k, p k → m ≤ k then Classical.choose h else 0

theorem leastN_spec {p : Nat → Prop} {n : Nat} (h : p n) : p (leastN p) ∧ leastN p ≤ n := by
  have he := least_of n h
  unfold leastN
  rw [dif_pos he]
  exact ⟨(Classical.choose_spec he).1, (Classical.choose_spec he).2 n h⟩

/-- a loop, by rounds that are counted down -/
theorem in_loop {F : Fence} {n : Nat} {c : Code} {Q : Exit → Act → World → Prop} {a : Act} {w : World} (R : Nat → Act → World → Prop) {m : Nat} (h0 : R m a w) (hz : ∀ a w, ¬ R 0 a w)
    (hs : ∀ m a w, R (m + 1) a w → c.wpIn F n P (Exit.then (R m) Q) a w) : (Code.loop c).wpIn F n P Q a w := by
  refine wpIn_loop (fun a w => ∃ m, R m a w) (fun a w => leastN fun m => R m a w) ⟨m, h0⟩ ?_
  rintro a w ⟨m, hm⟩
  obtain ⟨h1, _⟩ := leastN_spec (p := fun m => R m a w) hm
  cases e : leastN (fun m => R m a w) with
  | zero => rw [e] at h1; exact absurd h1 (hz a w)
  | succ l =>
    rw [e] at h1
    refine wpIn_mono (hs l a w h1) ?_
    intro x a1 w1 h2
    cases x
    case normal => exact ⟨⟨l, h2⟩, Nat.lt_succ_of_le (leastN_spec (p := fun m => R m a1 w1) h2).2⟩
    all_goals exact h2

theorem not_letsOut {j : JM} {H : Heap} {w : World} {nt : Nat} {ex : AEx} {e' : Env} {H' : Heap} : ¬ LetsOut (CPost ds j H w nt ex e' H') := by
  rintro ⟨a, w1, h, _⟩
  cases ex <;> exact h

theorem code_sound (hcall : CallOk P callF) (hmd : CallCls callF md) (hmo : CallMono callF) (hmix : P.follows .mixedOrders = true) {fuel nt : Nat} {rd : Option Nat} {n : Nat} : ∀ {c : Code} {c' : ACode} {e e' : Env} {a : Act} {j : JM} {H H' : Heap} {w : World} {ex : AEx},
    cC P md nt c = some c' → WR j H w → St ds j nt e a → evC callF fuel c' e H = some (ex, e', H') → c.wpIn (FR rd) n P (CPost ds j H w nt ex e' H') a w := by
  intro c
  induction c with
  | skip =>
    intro c' e e' a j H H' w ex hc hw hs hr
    simp only [cC, Option.some.injEq] at hc
    subst hc
    simp only [evC, Option.some.injEq, Prod.mk.injEq] at hr
    obtain ⟨rfl, rfl, rfl⟩ := hr
    exact wpIn_skip ⟨trivial, j, Trans.refl hw, hs⟩
  | label l =>
    intro c' e e' a j H H' w ex hc hw hs hr
    simp only [cC, Option.some.injEq] at hc
    subst hc
    simp only [evC, Option.some.injEq, Prod.mk.injEq] at hr
    obtain ⟨rfl, rfl, rfl⟩ := hr
    exact wpIn_label ⟨trivial, j, Trans.refl hw, hs⟩
  | ret =>
    intro c' e e' a j H H' w ex hc hw hs hr
    simp only [cC, Option.some.injEq] at hc
    subst hc
    simp only [evC, Option.some.injEq, Prod.mk.injEq] at hr
    obtain ⟨rfl, rfl, rfl⟩ := hr
    exact wpIn_ret ⟨trivial, j, Trans.refl hw, hs⟩
  | exit id =>
    intro c' e e' a j H H' w ex hc hw hs hr
    simp only [cC, Option.some.injEq] at hc
    subst hc
    simp only [evC, Option.some.injEq, Prod.mk.injEq] at hr
    obtain ⟨rfl, rfl, rfl⟩ := hr
    exact wpIn_exit ⟨rfl, j, Trans.refl hw, hs⟩
  | region id ops draw =>
    intro c' e e' a j H H' w ex hc hw hs hr
    simp only [cC] at hc
    split at hc
    · rename_i is his
      have fin : ∀ (c'' : ACode), c'' = .region is → evC callF fuel c'' e H = some (ex, e', H') →
          runIns callF is e H = some (e', H') ∧ ex = .normal := by
        rintro _ rfl h
        simp only [evC] at h
        split at h
        · rename_i e1 h1 h2
          simp only [Option.some.injEq, Prod.mk.injEq] at h
          obtain ⟨rfl, rfl, rfl⟩ := h
          exact ⟨h2, rfl⟩
        · simp at h
      cases draw with
      | false =>
        simp only [Bool.false_eq_true, if_false, Option.some.injEq] at hc
        obtain ⟨h1, rfl⟩ := fin c' hc.symm hr
        refine in_region_list not_letsOut (ops_nodefer his) (region_sound hcall his hw hs h1 (fun j' a' w' htr hs' => ⟨trivial, j', htr, hs'⟩))
      | true =>
        simp only [if_true] at hc
        have hlen := inss_length his
        simp only [Array.length_toList] at hlen
        refine in_region_any not_letsOut (ops_nodefer his) hmix ?_
        by_cases hok : (drawOkD md (confOf md is (ops.toList.map depsOf)) is (ops.toList.map depsOf) && staysB (confOf md is (ops.toList.map depsOf)) is) = true
        case neg =>
          rw [if_neg hok] at hc
          obtain ⟨hokB, hc⟩ := if_some hc
          rw [Bool.and_eq_true] at hokB
          obtain ⟨hokB, hall⟩ := hokB
          obtain ⟨h1, hex⟩ : runIns callF (canonB is (masks (ops.toList.map depsOf) [])) e H = some (e', H') ∧ ex = .normal := by
            obtain rfl := Option.some.inj hc
            simp only [evC] at hr
            split at hr
            · rename_i e1 h1 h2
              simp only [Option.some.injEq, Prod.mk.injEq] at hr
              obtain ⟨rfl, rfl, rfl⟩ := hr
              exact ⟨h2, rfl⟩
            · simp at hr
          subst hex
          have hal : ∀ k, k < is.length → phA is k = true → ∃ o, ops[k]? = some o ∧ isAlloc o = true := by
            intro k hk ha
            have := List.all_eq_true.1 hall k (List.mem_range.2 hk)
            rw [ha] at this
            simp only [Bool.not_true, Bool.false_or] at this
            split at this
            · rename_i o ho; exact ⟨o, ho, this⟩
            · simp at this
          have hspec := fun k hk => allBelow_spec hokB k hk
          unfold canonB at h1
          obtain ⟨eP, HP, hP, hAR⟩ := runIns_append h1
          obtain ⟨eA, HA, hA, hRr⟩ := runIns_append hAR
          have hclsP : ∀ i ∈ ((List.range is.length).filter (phP is (masks (ops.toList.map depsOf) []))).map (fun k => is.getD k default), i.op.cls md ≤ 1 := by
            intro i hi
            obtain ⟨k, hk, rfl⟩ := List.mem_map.1 hi
            obtain ⟨hk1, hk2⟩ := List.mem_filter.1 hk
            have := hspec k (List.mem_range.1 hk1)
            simp only [Bool.and_eq_true, Bool.or_eq_true, Bool.not_eq_true', Nat.ble_eq] at this
            exact this.1.2.resolve_left (by rw [hk2]; simp)
          have hHP : HP = H := runIns_reads hmd hclsP hP
          rw [hHP] at hP hA
          -- the registers of the blocks, forgotten
          have hD : ∀ D : List Nat, ∃ er : Env, ∀ t, lk er t = if t ∈ D then none else lk e t := by
            intro D
            induction D with
            | nil => exact ⟨e, fun t => by simp⟩
            | cons d D ih =>
              obtain ⟨er, h⟩ := ih
              refine ⟨er.set (d + 1) d none, fun t => ?_⟩
              have : lk (er.set (d + 1) d none) t = if t = d then none else lk er t := Tr.get_set _ _ _ _ _ (by omega)
              rw [this, h t]
              by_cases h1 : t = d
              · simp [h1]
              · simp [h1]
          obtain ⟨er, her⟩ := hD (((List.range is.length).filter (phA is)).filterMap fun k => (is.getD k default).dst)
          have hinD : ∀ t, t ∈ (((List.range is.length).filter (phA is)).filterMap fun k => (is.getD k default).dst) ↔ ∃ k, k < is.length ∧ phA is k = true ∧ (is.getD k default).dst = some t := by
            intro t
            rw [List.mem_filterMap]
            constructor
            · rintro ⟨k, hk, h⟩
              obtain ⟨hk1, hk2⟩ := List.mem_filter.1 hk
              exact ⟨k, List.mem_range.1 hk1, hk2, h⟩
            · rintro ⟨k, h1, h2, h3⟩
              exact ⟨k, List.mem_filter.2 ⟨List.mem_range.2 h1, h2⟩, h3⟩
          generalize hDD : (((List.range is.length).filter (phA is)).filterMap fun k => (is.getD k default).dst) = D at her hinD
          obtain ⟨eP', hP', hoff⟩ := runIns_off (D := D) (e' := er) (fun i hi t ht hD => by
            obtain ⟨k, hk, rfl⟩ := List.mem_map.1 hi
            obtain ⟨hk1, hk2⟩ := List.mem_filter.1 hk
            obtain ⟨x, hx1, hx2, hx3⟩ := (hinD t).1 hD
            have h0 := hspec k (List.mem_range.1 hk1)
            simp only [Bool.and_eq_true] at h0
            have h1 := allBelow_spec h0.2 x hx1
            simp only [Bool.and_eq_true, Bool.or_eq_true, Bool.not_eq_true', Bool.and_eq_false_iff] at h1
            rcases h1.1.2 with (h | h) | h
            · rw [hk2] at h; simp at h
            · rw [hx2] at h; simp at h
            · have := h.1
              rw [hx3] at this
              simp only [dstIn] at this
              have h3 : ¬ t ∈ (is.getD k default).uses := by simpa using this
              exact h3 ht) (fun t ht => by rw [her t, if_neg ht]) hP
          have hwd : WR j H { w with drawn := w.drawn + 1 } := hw.of_heap (w' := { w with drawn := w.drawn + 1 }) (Nat.le_refl _) (fun _ _ _ _ _ => rfl) (Home.keep w _ hw.inv (Nat.le_refl _) (fun _ _ => rfl))
          have hser : St ds j nt er a := ⟨fun t v hv => by
            rw [her t] at hv
            split at hv
            · simp at hv
            · exact hs.er t v hv, hs.size, hs.defers⟩
          have hrange : is.length = ops.size := hlen
          refine any_soundB (j0 := j) (w0 := { w with drawn := w.drawn + 1 }) (H := H) (e1 := eP') hcall hmd his hokB hal ?_ ops.size (List.range ops.size) (Array.replicate ops.size false) (e := er) (e' := eP') (blk := fun _ => 0) (by simp) (by simp) ?_ ?_ ?_ (Trans.refl hwd) hser ?_ ?_ (Eqv.refl _) ?_
          · intro m L listed e2 a2 j1 w1 blk hL hsz hLe hcl hR hLk e3 hLP heq T hs2 hp
            have hAl : ∀ i ∈ ((List.range is.length).filter (phA is)).map (fun k => is.getD k default), ∃ d z, i = ⟨some d, none, .alloc z⟩ := by
              intro i hi
              obtain ⟨k, hk, rfl⟩ := List.mem_map.1 hi
              obtain ⟨d, z, _, h2⟩ := phA_spec (List.mem_filter.1 hk).2
              exact ⟨d, z, h2⟩
            obtain ⟨eB, hB, hBf⟩ := runAl hAl hA e2
            have hdstD : ∀ t, (∃ i ∈ ((List.range is.length).filter (phA is)).map (fun k => is.getD k default), i.dst = some t) ↔ t ∈ D := by
              intro t
              rw [hinD]
              constructor
              · rintro ⟨i, hi, ht⟩
                obtain ⟨k, hk, rfl⟩ := List.mem_map.1 hi
                obtain ⟨h1, h2⟩ := List.mem_filter.1 hk
                exact ⟨k, List.mem_range.1 h1, h2, ht⟩
              · rintro ⟨k, h1, h2, h3⟩
                exact ⟨_, List.mem_map.2 ⟨k, List.mem_filter.2 ⟨List.mem_range.2 h1, h2⟩, rfl⟩, h3⟩
            have hpairs : ∀ k' k, k' < is.length → k < is.length →
                (phP is (masks (ops.toList.map depsOf) []) k' = true → phA is k = true → dstIn (is.getD k default).dst (is.getD k' default).uses = false ∧ sameDst (is.getD k default).dst (is.getD k' default).dst = false) ∧
                (phA is k = true → phA is k' = true → k ≠ k' → sameDst (is.getD k default).dst (is.getD k' default).dst = false) ∧
                (phR is (masks (ops.toList.map depsOf) []) k' = true → phP is (masks (ops.toList.map depsOf) []) k = true → k < k' ∧ (((masks (ops.toList.map depsOf) []).getD k' 0).testBit k = true ∨ commutes md (is.getD k default) (is.getD k' default) = true)) ∧
                (k < k' → (phP is (masks (ops.toList.map depsOf) []) k = true ∧ phP is (masks (ops.toList.map depsOf) []) k' = true) ∨ (phR is (masks (ops.toList.map depsOf) []) k = true ∧ phR is (masks (ops.toList.map depsOf) []) k' = true) → ((masks (ops.toList.map depsOf) []).getD k' 0).testBit k = true ∨ commutes md (is.getD k default) (is.getD k' default) = true) := by
              intro k' k hk' hk
              have h0 := hspec k' hk'
              simp only [Bool.and_eq_true] at h0
              have h5 := allBelow_spec h0.2 k hk
              simp only [Bool.and_eq_true, Bool.or_eq_true, Bool.not_eq_true', Bool.and_eq_false_iff, Bool.or_eq_false_iff, Nat.blt_eq] at h5
              obtain ⟨⟨⟨⟨_, b2⟩, b3⟩, b4⟩, b5⟩ := h5
              refine ⟨fun h1 h2 => b4.resolve_left ?_, fun h1 h2 h3 => ?_, fun h1 h2 => b2.resolve_left ?_, fun h1 h2 => b3.resolve_left ?_⟩
              · rintro (h | h)
                · rw [h1] at h; simp at h
                · rw [h2] at h; simp at h
              · rcases b5 with (h | h) | h | h
                · rw [h1] at h; simp at h
                · rw [h2] at h; simp at h
                · exact absurd (Nat.eq_of_beq_eq_true h) h3
                · exact h
              · rintro (h | h)
                · rw [h1] at h; simp at h
                · rw [h2] at h; simp at h
              · rintro (h | h)
                · have : Nat.blt k k' = true := by rw [Nat.blt_eq]; exact h1
                  rw [this] at h; simp at h
                · rcases h2 with ⟨h2, h3⟩ | ⟨h2, h3⟩
                  · rcases h.1 with h | h
                    · rw [h2] at h; simp at h
                    · rw [h3] at h; simp at h
                  · rcases h.2 with h | h
                    · rw [h2] at h; simp at h
                    · rw [h3] at h; simp at h
            obtain ⟨j2, T2, her2⟩ := adopt_all (n0 := w.heap.size) (w0 := { w with drawn := w.drawn + 1 }) rfl hw.gsz ((List.range is.length).filter (phA is)) (X := fun k => k < ops.size ∧ phA is k = true) (List.nodup_range.filter _)
              (fun k hk => by obtain ⟨h1, h2⟩ := List.mem_filter.1 hk; exact ⟨by have := List.mem_range.1 h1; omega, h2⟩) hp T
              (fun k hk k' hk' hne => by
                obtain ⟨h1, h2⟩ := List.mem_filter.1 hk
                obtain ⟨h3, h4⟩ := List.mem_filter.1 hk'
                exact (hpairs k' k (List.mem_range.1 h3) (List.mem_range.1 h1)).2.1 h2 h4 hne)
              (fun t v _ hv => hs2.er t v hv) hB
            have hlt : ∀ (i : Nat) (l : List Nat), (ops.toList.map depsOf)[i]? = some l → ∀ d ∈ l, d < i := by
              intro i l hl d hd
              have hi : i < is.length := by
                rcases Nat.lt_or_ge i is.length with h' | h'
                · exact h'
                · rw [List.getElem?_eq_none (by simp; omega)] at hl; simp at hl
              have := hspec i hi
              simp only [Bool.and_eq_true, List.getD, hl, Option.getD_some, List.all_eq_true, Nat.blt_eq] at this
              exact this.1.1 d hd
            have hmemL : ∀ k, k ∈ L ↔ k < ops.size ∧ listed.getD k true = false := by
              intro k
              rw [hLe, List.mem_filter, List.mem_range]
              simp
            -- what is left of the first ones needs no heap
            have hLPm : ∀ i ∈ (L.filter (phP is (masks (ops.toList.map depsOf) []))).map (fun k => is.getD k default), ∃ k, k < is.length ∧ phP is (masks (ops.toList.map depsOf) []) k = true ∧ i = is.getD k default ∧ i.op.cls md = 0 := by
              intro i hi
              obtain ⟨k, hk, rfl⟩ := List.mem_map.1 hi
              obtain ⟨h1, h2⟩ := List.mem_filter.1 hk
              refine ⟨k, by have := (hmemL k).1 h1; omega, h2, rfl, ?_⟩
              rcases hLk k h1 with h | h
              · unfold phP at h2
                rw [h] at h2
                simp at h2
              · exact h.2
            obtain ⟨eC, hC, hC2, hC3⟩ := runIns_pure hmd (D := D) (e' := eB) (fun i hi => (hLPm i hi).choose_spec.2.2.2) (fun i hi t ht hD => by
                obtain ⟨k, h1, h2, rfl, _⟩ := hLPm i hi
                obtain ⟨x, hx1, hx2, hx3⟩ := (hinD t).1 hD
                have := ((hpairs k x h1 hx1).1 h2 hx2).1
                rw [hx3] at this
                simp only [dstIn] at this
                have h3 : ¬ t ∈ (is.getD k default).uses := by simpa using this
                exact h3 ht) (fun i hi d hd hD => by
                obtain ⟨k, h1, h2, rfl, _⟩ := hLPm i hi
                obtain ⟨x, hx1, hx2, hx3⟩ := (hinD d).1 hD
                have := ((hpairs k x h1 hx1).1 h2 hx2).2
                rw [hx3, hd] at this
                simp [sameDst] at this) (fun t ht => ((hBf t).2 (fun i hi e => ht ((hdstD t).1 ⟨i, hi, e⟩))).1.symm) hLP HA
            have hEq : Eqv eA eC := by
              intro t
              by_cases ht : t ∈ D
              · rw [hC3 t ht]
                exact ((hBf t).1 ((hdstD t).2 ht)).symm
              · rw [← hC2 t ht, ← heq t, ← hoff t ht]
                exact ((hBf t).2 (fun i hi e => ht ((hdstD t).1 ⟨i, hi, e⟩))).2
            obtain ⟨e4, hR4, heq4⟩ := runIns_eqv hEq hRr
            have hsrtL : L.Pairwise (· < ·) := by rw [hLe]; exact (List.pairwise_lt_range).filter _
            have hLR : L.filter (phR is (masks (ops.toList.map depsOf) [])) = (List.range is.length).filter (phR is (masks (ops.toList.map depsOf) [])) := by
              rw [hLe, List.filter_filter, hrange]
              refine List.filter_congr (fun k hk => ?_)
              cases hb : phR is (masks (ops.toList.map depsOf) []) k with
              | true => rw [hR k (List.mem_range.1 hk) hb]; rfl
              | false => rfl
            have hsplit := split_sorted (p := phP is (masks (ops.toList.map depsOf) [])) (q := phR is (masks (ops.toList.map depsOf) [])) hsrtL (fun k hk => (hLk k hk).symm.imp (fun h => h.1) (fun h => h))
              (fun k h1 h2 => by unfold phP at h1; rw [h2] at h1; simp at h1) (fun x hx y hy h1 h2 => ((hpairs y x (by have := (hmemL y).1 hy; omega) (by have := (hmemL x).1 hx; omega)).2.2.1 h2 h1).1)
            have hrunL : runIns callF (L.map fun k => is.getD k default) eB HA = some (e4, H') := by
              rw [hsplit, List.map_append, hLR]
              exact runIns_app hC hR4
            have hsn : ∀ l : List AIns, Stays [] l := by
              intro l
              induction l with
              | nil => trivial
              | cons x l ih => exact ⟨fun t _ ht => by simp at ht, ih⟩
            refine any_sound (conf := []) (h0 := HA) (e' := e4) (H' := H') (S := fun k => phP is (masks (ops.toList.map depsOf) []) k = true ∨ phR is (masks (ops.toList.map depsOf) []) k = true) hcall hmd hmo his hlt ?_ m L listed hL hsz hLe (fun k hk => (hLk k hk).symm.imp (fun h => h.1) (fun h => h)) hcl T2.wr ⟨her2, hs2.size, hs2.defers⟩ hrunL (fun _ h => h) (fun t ht => by simp at ht) (hsn _) ?_
            · intro i p x y hpi hi hSi hSp hx hy
              obtain ⟨_, _, c3, c4⟩ := hpairs i p hi (by omega)
              have key : ((masks (ops.toList.map depsOf) []).getD i 0).testBit p = true ∨ commutes md (is.getD p default) (is.getD i default) = true := by
                rcases hSp with hSp | hSp <;> rcases hSi with hSi | hSi
                · exact c4 hpi (.inl ⟨hSp, hSi⟩)
                · exact (c3 hSi hSp).2
                · have := ((hpairs p i (by omega) hi).2.2.1 hSp hSi).1
                  omega
                · exact c4 hpi (.inr ⟨hSp, hSi⟩)
              rw [show is.getD p default = x by simp [List.getD, hx], show is.getD i default = y by simp [List.getD, hy]] at key
              exact key.imp (fun h => h) .inl
            · intro e5 j3 a3 w3 heq3 htr hs3
              have T3 := T2.trans htr
              exact ⟨trivial, j3, ⟨T3.ext, T3.wr, T3.ro, T3.next, T3.os, T3.tape, T3.output, T3.size, T3.keep, T3.grow, T3.old⟩, ⟨fun t v hv => hs3.er t v ((heq3 t).symm.trans ((heq4 t).symm.trans hv)), hs3.size, hs3.defers⟩⟩
          · rw [List.filter_eq_self.2]
            intro k hk
            rw [List.mem_range] at hk
            simp [hk]
          · intro k hk
            simp only [Array.getD_eq_getD_getElem?, Array.getElem?_replicate] at hk
            split at hk <;> simp at hk
          · intro k hk _
            simp [hk]
          · intro k hk ha d hd
            rw [her d, if_pos ((hinD d).2 ⟨k, by omega, ha, hd⟩)]
          · rw [← hrange]; exact hP'
          · refine ⟨fun k hk => ?_, fun k k' hk => ?_, fun k hk => ?_⟩
            all_goals
              have := hk.2.2
              have h1 := hk.1
              simp [h1] at this
        rw [if_pos hok] at hc
        rw [Bool.and_eq_true] at hok
        have hall : (List.range ops.size).map (fun k => is.getD k default) = is := by
          apply List.ext_getElem?
          intro i
          by_cases hi : i < is.length
          · rw [List.getElem?_map, List.getElem?_range (by omega), Option.map_some]
            simp [List.getD, List.getElem?_eq_getElem hi]
          · rw [List.getElem?_eq_none (by simp; omega), List.getElem?_eq_none (by omega)]
        have go : ∀ (conf : List Nat) (H1 H2 : Heap), drawOkD md conf is (ops.toList.map depsOf) = true → Stays conf is → WR j H1 { w with drawn := w.drawn + 1 } → runIns callF is e H1 = some (e', H2) → OkConf conf H1 e' H2 →
            (∀ j' w', Trans j H1 { w with drawn := w.drawn + 1 } j' H2 w' → Trans j H w j' H' w') → ex = .normal → wpAny P .any ops (CPost ds j H w nt ex e' H') ops.size (Array.replicate ops.size false) a { w with drawn := w.drawn + 1 } := by
          intro conf H1 H2 hk hst hwd h1 hcf htrans hex
          subst hex
          obtain ⟨sp1, sp2⟩ := drawOkD_spec (by simp [hlen]) hk
          refine any_sound (e' := e') (H' := H2) (h0 := H1) (conf := conf) (S := fun _ => True) hcall hmd hmo his sp1 sp2 ops.size (List.range ops.size) (Array.replicate ops.size false) (by simp) (by simp) ?_ (fun _ _ => trivial) ?_ hwd hs ?_ (fun _ h => h) hcf ?_ ?_
          · rw [List.filter_eq_self.2]
            intro k hk
            rw [List.mem_range] at hk
            simp [hk]
          · intro k hk
            simp only [Array.getD_eq_getD_getElem?, Array.getElem?_replicate] at hk
            split at hk <;> simp at hk
          · rw [hall]; exact h1
          · rw [hall]; exact hst
          · intro e2 j' a' w' heq htr hs'
            exact ⟨trivial, j', htrans j' w' htr, ⟨fun t v hv => hs'.er t v ((heq t).symm.trans hv), hs'.size, hs'.defers⟩⟩
        have hwd : ∀ l, WR j (H.withLog l) { w with drawn := w.drawn + 1 } := fun l =>
          have h := hw.of_heap (w' := { w with drawn := w.drawn + 1 }) (Nat.le_refl _) (fun _ _ _ _ _ => rfl) (Home.keep w _ hw.inv (Nat.le_refl _) (fun _ _ => rfl))
          ⟨h.dom, h.hdom, h.cell, h.own, h.apart, h.gsz, h.inv, h.lo⟩
        have hc := Option.some.inj hc
        split at hc
        · rename_i hemp
          obtain ⟨h1, hex⟩ := fin c' hc.symm hr
          have hnil : confOf md is (ops.toList.map depsOf) = [] := List.isEmpty_iff.1 hemp
          exact go [] H H' (by rw [← hnil]; exact hok.1) (by rw [← hnil]; exact stays_of hok.2) (hwd H.log) h1 (fun t ht => by simp at ht)
            (fun j' w' htr => ⟨htr.ext, htr.wr, htr.ro, htr.next, htr.os, htr.tape, htr.output, htr.size, htr.keep, htr.grow, htr.old⟩) hex
        · subst hc
          simp only [evC] at hr
          split at hr
          · rename_i e1 h1 hrun
            obtain ⟨hck, hr⟩ := bif_some hr
            simp only [Option.some.injEq, Prod.mk.injEq] at hr
            obtain ⟨hex, rfl, rfl⟩ := hr
            exact go _ (H.withLog []) h1 hok.1 (stays_of hok.2) (hwd []) hrun (okConf_of (hh := H) (fun _ => rfl) hck)
              (fun j' w' htr => ⟨htr.ext, ⟨htr.wr.dom, htr.wr.hdom, htr.wr.cell, htr.wr.own, htr.wr.apart, htr.wr.gsz, htr.wr.inv, htr.wr.lo⟩, htr.ro, htr.next, htr.os, htr.tape, htr.output, htr.size, htr.keep, htr.grow, htr.old⟩) hex.symm
          · simp at hr
    · simp at hc
  | seq x y ihx ihy =>
    intro c' e e' a j H H' w ex hc hw hs hr
    simp only [cC] at hc
    split at hc
    · rename_i x' y' hx hy
      obtain rfl := Option.some.inj hc
      simp only [evC] at hr
      apply wpIn_seq
      split at hr
      · rename_i e1 h1 hx1
        refine wpIn_mono (ihx hx hw hs hx1) ?_
        rintro x1 a1 w1 ⟨hex, j1, htr, hs1⟩
        cases x1 <;> simp only [exRel] at hex
        refine wpIn_mono (ihy hy htr.wr hs1 hr) ?_
        rintro x2 a2 w2 ⟨hex2, j2, htr2, hs2⟩
        exact ⟨hex2, j2, htr.trans htr2, hs2⟩
      · rename_i hne
        refine wpIn_mono (ihx hx hw hs hr) ?_
        rintro x1 a1 w1 ⟨hex, j1, htr, hs1⟩
        cases x1 <;> cases ex <;> simp only [exRel] at hex
        · exact absurd hr (hne _ _)
        · exact ⟨hex, j1, htr, hs1⟩
        · exact ⟨trivial, j1, htr, hs1⟩
    · simp at hc
  | cond c x y ihx ihy =>
    intro c' e e' a j H H' w ex hc hw hs hr
    simp only [cC] at hc
    split at hc
    · rename_i c1 x' y' hc1 hx hy
      obtain rfl := Option.some.inj hc
      simp only [evC] at hr
      split at hr
      · rename_i t ht
        have hv := opd_sound hs.er hc1 ht
        simp only [VR] at hv
        cases t with
        | true => exact wpIn_cond_true hv (ihx hx hw hs hr)
        | false => exact wpIn_cond_false hv (ihy hy hw hs hr)
      · rename_i t ht
        have hv := opd_sound hs.er hc1 ht
        simp only [VR] at hv
        cases t with
        | true => exact wpIn_cond_true hv (ihx hx hw hs hr)
        | false => exact wpIn_cond_false hv (ihy hy hw hs hr)
      · simp at hr
    · simp at hc
  | block id b ih =>
    intro c' e e' a j H H' w ex hc hw hs hr
    simp only [cC] at hc
    split at hc
    · rename_i b' hb
      obtain rfl := Option.some.inj hc
      simp only [evC] at hr
      apply wpIn_block
      split at hr
      · rename_i id' e1 h1 hb1
        refine wpIn_mono (ih hb hw hs hb1) ?_
        rintro x1 a1 w1 ⟨hex, j1, htr, hs1⟩
        cases x1 <;> simp only [exRel] at hex
        subst hex
        simp only [cond_eq_ite, Nat.beq_eq] at hr
        simp only [Exit.inBlock]
        split at hr
        · rename_i hid
          simp only [Option.some.injEq, Prod.mk.injEq] at hr
          obtain ⟨rfl, rfl, rfl⟩ := hr
          rw [if_pos hid]
          exact ⟨trivial, j1, htr, hs1⟩
        · rename_i hid
          simp only [Option.some.injEq, Prod.mk.injEq] at hr
          obtain ⟨rfl, rfl, rfl⟩ := hr
          rw [if_neg hid]
          exact ⟨rfl, j1, htr, hs1⟩
      · rename_i hne
        refine wpIn_mono (ih hb hw hs hr) ?_
        rintro x1 a1 w1 ⟨hex, j1, htr, hs1⟩
        cases x1 <;> cases ex <;> simp only [exRel] at hex
        · exact ⟨trivial, j1, htr, hs1⟩
        · exact absurd hr (hne _ _ _)
        · exact ⟨trivial, j1, htr, hs1⟩
    · simp at hc
  | loop b ih =>
    intro c' e e' a j H H' w ex hc hw hs hr
    simp only [cC] at hc
    split at hc
    · rename_i b' hb
      obtain rfl := Option.some.inj hc
      simp only [evC] at hr
      refine in_loop (fun m a1 w1 => ∃ e1 H1 j1, Trans j H w j1 H1 w1 ∧ St ds j1 nt e1 a1 ∧ loopN (fun e h => evC callF fuel b' e h) m e1 H1 = some (ex, e', H')) (m := fuel) ⟨e, H, j, Trans.refl hw, hs, hr⟩ ?_ ?_
      · rintro a1 w1 ⟨e1, H1, j1, _, _, h⟩
        simp [loopN] at h
      · rintro m a1 w1 ⟨e1, H1, j1, htr1, hs1, h⟩
        simp only [loopN] at h
        split at h
        · rename_i e2 h2 hb1
          refine wpIn_mono (ih hb htr1.wr hs1 hb1) ?_
          rintro x1 a2 w2 ⟨hex, j2, htr2, hs2⟩
          cases x1 <;> simp only [exRel] at hex
          exact ⟨e2, h2, j2, htr1.trans htr2, hs2, h⟩
        · rename_i hne
          refine wpIn_mono (ih hb htr1.wr hs1 h) ?_
          rintro x1 a2 w2 ⟨hex, j2, htr2, hs2⟩
          cases x1 <;> cases ex <;> simp only [exRel] at hex
          · exact absurd h (hne _ _)
          · exact ⟨hex, j2, htr1.trans htr2, hs2⟩
          · exact ⟨trivial, j2, htr1.trans htr2, hs2⟩
    · simp at hc
  | scope b ih =>
    intro c' e e' a j H H' w ex hc hw hs hr
    simp only [cC] at hc
    refine in_scope (wpIn_mono (ih hc hw hs hr) ?_)
    rintro x1 a1 w1 h
    cases x1
    case goto l => obtain ⟨hex, _⟩ := h; cases ex <;> simp [exRel] at hex
    all_goals exact h
  | goto l => intro c' e e' a j H H' w ex hc; simp [cC] at hc
  | refuse l => intro c' e e' a j H H' w ex hc; simp [cC] at hc
  | rangeFunc f p x y => intro c' e e' a j H H' w ex hc; simp [cC] at hc

end
end Go.Ev

/- Functions: what the evaluator answers, the loaded call answers. -/

namespace Go.Ev
set_option linter.unusedSectionVars false
variable [Home]
set_option linter.unusedVariables false
set_option linter.unusedSimpArgs false
open Go

/-! ### results -/
def cRes (P : Program) : List ResultVar → Option (List (Nat × Option (Nat × Bool)))
  | [] => some []
  | .tmp t :: r => match cRes P r with
    | some rs => some ((t, none) :: rs)
    | none => none
  | .cell t ty :: r => match size? P ty, isAgg? P ty, cRes P r with
    | some n, some g, some rs => if g = true ∨ n = 1 then some ((t, some (n, g)) :: rs) else none
    | _, _, _ => none

section
variable {P : Program}

theorem res_sound {j : JM} {H : Heap} {w : World} {e : Env} {tmps : Array Value} (hw : WR j H w) (hE : ER j e tmps) : ∀ {l : List ResultVar} {rs : List (Nat × Option (Nat × Bool))} {vs : List AV}, cRes P l = some rs → resOf e H rs = some vs →
    ∃ cs, VRs j vs cs ∧ ((l.mapM fun
      | .tmp t => pure (tmps.getD t undef)
      | .cell a t => do loadVar t (← asAddr (tmps.getD a undef)) : Sem (List Value))).run P w = .ok cs w
  | [], rs, vs, h, hr => by
    simp only [cRes, Option.some.injEq] at h
    subst h
    simp only [resOf, Option.some.injEq] at hr
    subst hr
    exact ⟨[], rfl, by simp⟩
  | .tmp t :: l, rs, vs, h, hr => by
    simp only [cRes] at h
    split at h
    · rename_i rs' hrs
      obtain rfl := Option.some.inj h
      simp only [resOf] at hr
      split at hr
      · rename_i v hv
        split at hr
        · rename_i vs' hvs
          obtain rfl := Option.some.inj hr
          obtain ⟨cs, h1, h2⟩ := res_sound hw hE hrs hvs
          exact ⟨_, ⟨_, cs, rfl, hE t v hv, h1⟩, by simp only [List.mapM_cons, Sem.run_bind, Sem.run_pure, Result.andThen_ok, h2]⟩
        · simp at hr
      · simp at hr
    · simp at h
  | .cell t ty :: l, rs, vs, h, hr => by
    simp only [cRes] at h
    split at h
    · rename_i n g rs' hn hg hrs
      obtain ⟨hgn, h⟩ := if_some h
      obtain rfl := Option.some.inj h
      simp only [resOf] at hr
      split at hr
      · rename_i v hv
        split at hr
        · rename_i u hu
          split at hr
          · rename_i vs' hvs
            obtain rfl := Option.some.inj hr
            obtain ⟨cs, h1, h2⟩ := res_sound hw hE hrs hvs
            have hvr := hE t v hv
            cases v <;> (try simp at hu; done)
            rename_i b off
            obtain ⟨loc, hl, he⟩ := hvr
            simp only at hu
            split at hu
            · rename_i cs0 hcs0
              obtain ⟨l0, hvl, hrun, hcell⟩ := load_sound (P := P) hw hcs0 hl
              cases g with
              | true =>
                simp only [cond_true, Option.some.injEq] at hu
                subst hu
                have hrun1 : (do loadVar ty (← asAddr (tmps.getD t undef)) : Sem Value).run P w = .ok (.agg l0.toArray) w := by
                  simp only [Sem.run_bind, he, asAddr, Sem.run_pure, Result.andThen_ok, loadVar, run_isAgg hg, run_sizeOf hn, hrun, if_true]
                refine ⟨_, ⟨.agg l0.toArray, cs, rfl, ⟨l0, rfl, hvl⟩, h1⟩, ?_⟩
                rw [List.mapM_cons, Sem.run_bind]
                refine (congrArg (fun r : Result Value => r.andThen _) hrun1).trans ?_
                simp only [Result.andThen_ok, Sem.run_bind, h2, Sem.run_pure]
              | false =>
                simp only [cond_false] at hu
                split at hu
                · rename_i c0
                  simp only [Option.some.injEq] at hu
                  subst hu
                  obtain ⟨c, _, rfl, hvc, rfl⟩ := hvl
                  have := hcell 0 c rfl
                  simp only [Nat.add_zero] at this
                  have hrun1 : (do loadVar ty (← asAddr (tmps.getD t undef)) : Sem Value).run P w = .ok c w := by
                    simp only [Sem.run_bind, he, asAddr, Sem.run_pure, Result.andThen_ok, loadVar, run_isAgg hg, run_load, this, Bool.false_eq_true, if_false]
                  refine ⟨_, ⟨c, cs, rfl, hvc, h1⟩, ?_⟩
                  rw [List.mapM_cons, Sem.run_bind]
                  refine (congrArg (fun r : Result Value => r.andThen _) hrun1).trans ?_
                  simp only [Result.andThen_ok, Sem.run_bind, h2, Sem.run_pure]
                · simp at hu
            · simp at hu
          · simp at hr
        · simp at hr
      · simp at hr
    · simp at h

theorem results_sound {j : JM} {H : Heap} {w : World} {e : Env} {tmps : Array Value} (hw : WR j H w) (hE : ER j e tmps) {fn : Func} {rs : List (Nat × Option (Nat × Bool))} {vs : List AV}
    (h : cRes P fn.results.toList = some rs) (hr : resOf e H rs = some vs) : ∃ c, VR j (single vs) c ∧ (results fn tmps).run P w = .ok c w := by
  obtain ⟨cs, h1, h2⟩ := res_sound hw hE h hr
  have hlen := VRs.length h1
  refine ⟨if h : cs.toArray.size = 1 then cs.toArray[0] else .tuple cs.toArray, ?_, ?_⟩
  · unfold single
    split
    · obtain ⟨c, _, rfl, hv, rfl⟩ := h1
      simpa using hv
    · rename_i hne
      rw [dif_neg]
      · exact ⟨cs, rfl, h1⟩
      · intro hs
        simp only [List.size_toArray, hlen] at hs
        obtain ⟨v, rfl⟩ := List.length_eq_one_iff.1 hs
        exact hne v rfl
  · unfold results
    rw [Array.mapM_eq_mapM_toList]
    simp only [Sem.run_bind, Sem.run_map]
    exact congrArg (fun r : Result (List Value) => (r.andThen fun a w' => Result.ok a.toArray w').andThen fun a w' => Sem.run P (pure (if h : a.size = 1 then a[0] else Value.tuple a)) w') h2

/-! ### functions -/
def GoodF (P : Program) (md : Nat → Nat) (f : Nat) (F : AFunc) : Prop :=
  ∃ fn code, P.funcs[f]? = some fn ∧ fn.body = some code ∧ (fn.name == "runtime.NumGoroutine") = false ∧ cC P md fn.ntmps code = some F.body ∧ cRes P fn.results.toList = some F.results

def GoodT (P : Program) (md : Nat → Nat) (T : Nat → Option AFunc) : Prop := ∀ f F, T f = some F → F.mode = md f ∧ GoodF P md f F

theorem run_callFunc {f : Nat} {fn : Func} {code : Code} (hf : P.funcs[f]? = some fn) (hb : fn.body = some code) (hn : (fn.name == "runtime.NumGoroutine") = false) (args : Array Value) (w : World) :
    (callFunc f args).run P w = .ok (.enter f args) w := by
  simp [callFunc, hf, hb]
  simpa using hn

theorem lk_params : ∀ {args : List AV} {n t : Nat} {v : AV}, lk (params n args) t = some v → ∃ k, t = n + k ∧ args[k]? = some v
  | [], n, t, v, h => by simp [params, lk, Tr.get] at h
  | u :: args, n, t, v, h => by
    simp only [params, lk] at h
    rw [Tr.get_set _ _ _ _ _ (by omega)] at h
    split at h
    · rename_i hn; obtain rfl := Option.some.inj h; exact ⟨0, by omega, rfl⟩
    · obtain ⟨k, h1, h2⟩ := lk_params h; exact ⟨k + 1, by omega, by simpa using h2⟩

theorem body_sound {callF : CallF} {md : Nat → Nat} (hcall : CallOk P callF) (hmd : CallCls callF md) (hmo : CallMono callF) (hmix : P.follows .mixedOrders = true) {fuel f : Nat} {F : AFunc} (hF : GoodF P md f F)
    {j : JM} {H H' : Heap} {w : World} {args : List AV} {l : List Value} {v : AV} (hw : WR j H w) (hl : VRs j args l) (hr : evBody callF fuel F args H = some (v, H')) : Calls P f l.toArray w (FnPost j H w v H') := by
  obtain ⟨fn, code, hf, hb, hn, hc, hres⟩ := hF
  refine calls_of_wp hf hb ?_
  have hs : St [] j fn.ntmps (params 0 args) { tmps := l.toArray ++ Array.replicate (fn.ntmps - l.toArray.size) undef, defers := [] } := by
    refine ⟨fun t v hv => ?_, by simp; omega, rfl⟩
    obtain ⟨k, rfl, hk⟩ := lk_params hv
    obtain ⟨c, h1, h2⟩ := VRs.get hl k v hk
    have hkl : k < l.length := by
      rcases Nat.lt_or_ge k l.length with h | h
      · exact h
      · rw [List.getElem?_eq_none h] at h1; simp at h1
    rw [Nat.zero_add, Array.getD_eq_getD_getElem?, Array.getElem?_append_left (by simpa using hkl)]
    simp only [List.getElem?_toArray, h1, Option.getD_some]
    exact h2
  unfold evBody at hr
  split at hr
  · rename_i e h1 hev
    split at hr
    · rename_i vs hvs
      simp only [Option.some.injEq, Prod.mk.injEq] at hr
      obtain ⟨rfl, rfl⟩ := hr
      refine wp_mono (wpIn_wide.1 (code_sound (rd := none) (n := 0) hcall hmd hmo hmix hc hw hs hev)) ?_
      rintro x a w' ⟨hex, j', htr, hs'⟩
      cases x <;> simp only [exRel] at hex
      obtain ⟨c, hv, hrun⟩ := results_sound htr.wr hs'.er hres hvs
      exact ⟨hs'.defers, c, hrun, j', c, htr, hv, rfl⟩
    · simp at hr
  · rename_i e h1 hev
    split at hr
    · rename_i vs hvs
      simp only [Option.some.injEq, Prod.mk.injEq] at hr
      obtain ⟨rfl, rfl⟩ := hr
      refine wp_mono (wpIn_wide.1 (code_sound (rd := none) (n := 0) hcall hmd hmo hmix hc hw hs hev)) ?_
      rintro x a w' ⟨hex, j', htr, hs'⟩
      cases x <;> simp only [exRel] at hex
      obtain ⟨c, hv, hrun⟩ := results_sound htr.wr hs'.er hres hvs
      exact ⟨hs'.defers, c, hrun, j', c, htr, hv, rfl⟩
    · simp at hr
  · simp at hr

/-- nothing was written: the caller's heap is as it was -/
theorem quiet_trans {j j0 j' : JM} {H H0 H' : Heap} {w w' : World} (hw : WR j H w) (hno : ∀ k, ¬ Own j0 H0 k) (htr : Trans j0 H0 w j' H' w') : Trans j H w j H w' := by
  have hheap : ∀ k, k < w.heap.size → w'.heap[k]? = w.heap[k]? := fun k hk => htr.keep k hk (hno k)
  have hwr : WR j H w' := hw.of_heap htr.size (fun b cs loc hb hj => by
    obtain ⟨loc', hj', hlt, _⟩ := hw.cell b cs hb
    rw [hj] at hj'
    obtain rfl := Option.some.inj hj'
    exact hheap _ hlt) htr.wr.inv
  exact ⟨Ext.refl j, hwr, fun _ => rfl, fun _ h => h, htr.os, htr.tape, htr.output, htr.size, fun k hk _ => hheap k hk, fun k hk h => h, fun _ _ h => h⟩

theorem no_own_frz {j : JM} {H : Heap} {w : World} (hw : WR j H w) (k : Nat) : ¬ Own j H.frz k := by
  rintro ⟨b, cs, loc, hr, hb, _, _⟩
  have := hw.hdom b cs hb
  rw [wr_frz, this] at hr
  simp at hr

theorem no_own_empty (k : Nat) : ¬ Own (fun _ => none) Heap.empty k := by
  rintro ⟨b, cs, loc, hr, hb, _, _⟩
  simp at hb

theorem newSl_gen {j j0 j' : JM} {H H0 H' : Heap} {w w' : World} {b off len z : Nat} {cs : List AV} {c : Value} (hw : WR j H w) (hno : ∀ k, ¬ Own j0 H0 k) (htr : Trans j0 H0 w j' H' w') (hv : VR j' (.sl b off len none z) c)
    (hnb : H0.wr b = true) (hcs : loadAt H' b off (len * z) = some cs) (hsc : cs.all AV.scalar = true) :
    ∃ j2, Trans j H w j2 (H.push cs) w' ∧ VR j2 (.sl H.nb 0 len none z) c := by
  have hq := quiet_trans hw hno htr
  obtain ⟨loc, cap', hl, hle, hext, hex, he⟩ := hv
  obtain ⟨L, hL, hbd, rfl⟩ := loadAt_some hcs
  obtain ⟨loc', hl', hlt, hLe, hcell⟩ := htr.wr.cell b L hL
  rw [hl] at hl'
  obtain rfl := Option.some.inj hl'
  have hro : H'.wr b = true := by rw [htr.ro]; exact hnb
  have hown := htr.wr.own b L loc hro hL hl
  have hblk : w.heap.size ≤ loc.blk := by
    rcases Nat.lt_or_ge loc.blk w.heap.size with h1 | h1
    · exact absurd (htr.grow _ h1 ⟨b, L, loc, hro, hL, hl, rfl⟩) (hno _)
    · exact h1
  have hjext := upd_ext hw ⟨loc.blk, loc.off + off, cap' * z⟩
  have hlen : ((L.drop off).take (len * z)).length = len * z := by simp; omega
  have hmul : len * z ≤ cap' * z := Nat.mul_le_mul_right _ hle
  have gold : ∀ b' cs', b' ≠ H.nb → (H.push ((L.drop off).take (len * z))).get b' = some cs' → H.get b' = some cs' := by
    intro b' cs' hne hb'
    simpa [hne] using hb'
  have jold : ∀ b', b' ≠ H.nb → upd j H.nb ⟨loc.blk, loc.off + off, cap' * z⟩ b' = j b' := fun b' hne => by simp [upd, hne]
  have hold : ∀ b' cs' loc', H.get b' = some cs' → j b' = some loc' → loc'.blk < w.heap.size := by
    intro b' cs' loc' hb' hj'
    obtain ⟨l2, h2, h3, _⟩ := hw.cell b' cs' hb'
    rw [hj'] at h2
    obtain rfl := Option.some.inj h2
    exact h3
  refine ⟨upd j H.nb ⟨loc.blk, loc.off + off, cap' * z⟩, ⟨hjext, ⟨?_, ?_, ?_, ?_, ?_, hq.wr.gsz, hq.wr.inv, ?_⟩, fun _ => rfl, fun x hx => has_push _ hx, hq.os, hq.tape, hq.output, hq.size, hq.keep, ?_, fun x hx hn => by simp only [upd]; rw [if_neg (ne_nb hx)]; exact hn⟩, ?_⟩
  · intro b' loc' hb'
    simp only [upd] at hb'
    split at hb'
    · rename_i e'; rw [e']; exact has_push_nb H _
    · exact has_push _ (hw.dom b' loc' hb')
  · intro b' cs' hb'
    by_cases hne : b' = H.nb
    · rw [hne]; exact has_push_nb H _
    · exact has_push _ (hw.hdom b' cs' (gold b' cs' hne hb'))
  · intro b' cs' hb'
    by_cases hne : b' = H.nb
    · subst hne
      simp only [Heap.get_push, if_true, Option.some.injEq] at hb'
      subst hb'
      refine ⟨_, upd_same .., hlt, by rw [hlen]; exact hmul, fun i x hx => ?_⟩
      have hxi : i < len * z := by
        rcases Nat.lt_or_ge i (len * z) with h1 | h1
        · exact h1
        · rw [List.getElem?_eq_none (by omega)] at hx; simp at hx
      have hmem : x ∈ (L.drop off).take (len * z) := List.mem_of_getElem? hx
      have hxs : x.scalar = true := by
        have := List.all_eq_true.1 hsc x hmem
        exact this
      rw [List.getElem?_take, if_pos hxi, List.getElem?_drop] at hx
      obtain ⟨c0, h1, h2⟩ := hcell _ x hx
      exact ⟨c0, by rw [Nat.add_assoc]; exact h1, VR.scalar hxs h2⟩
    · obtain ⟨l2, h2, h3, h4, h5⟩ := hq.wr.cell b' cs' (gold b' cs' hne hb')
      exact ⟨l2, by rw [jold b' hne]; exact h2, h3, h4, fun i x hx => by
        obtain ⟨c0, h6, h7⟩ := h5 i x hx
        exact ⟨c0, h6, VR.mono hjext h7⟩⟩
  · intro b' cs' loc' hr hb' hj' i hi
    by_cases hne : b' = H.nb
    · subst hne
      rw [upd_same] at hj'
      obtain rfl := Option.some.inj hj'
      simp only at hi ⊢
      have := hown (off + i) (by omega)
      rwa [← Nat.add_assoc] at this
    · rw [jold b' hne] at hj'
      exact hq.wr.own b' cs' loc' (by simpa using hr) (gold b' cs' hne hb') hj' i hi
  · intro b1 b2 cs1 cs2 l1 l2 hr hne h1 h2 hj1 hj2
    by_cases n1 : b1 = H.nb
    · have n2 : b2 ≠ H.nb := fun e' => hne (n1.trans e'.symm)
      rw [n1, upd_same] at hj1
      rw [jold b2 n2] at hj2
      obtain rfl := Option.some.inj hj1
      have := hold b2 cs2 l2 (gold b2 cs2 n2 h2) hj2
      simp only
      omega
    · rw [jold b1 n1] at hj1
      have a1 := hold b1 cs1 l1 (gold b1 cs1 n1 h1) hj1
      by_cases n2 : b2 = H.nb
      · rw [n2, upd_same] at hj2
        obtain rfl := Option.some.inj hj2
        simp only
        omega
      · rw [jold b2 n2] at hj2
        exact hw.apart b1 b2 cs1 cs2 l1 l2 (by simpa using hr) hne (gold b1 cs1 n1 h1) (gold b2 cs2 n2 h2) hj1 hj2
  · intro b' cs' loc' hr hb' hj'
    by_cases hne : b' = H.nb
    · subst hne
      rw [upd_same] at hj'
      obtain rfl := Option.some.inj hj'
      exact htr.wr.lo b L loc hro hL hl
    · rw [jold b' hne] at hj'
      exact hw.lo b' cs' loc' (by simpa using hr) (gold b' cs' hne hb') hj'
  · rintro k hk ⟨b', cs', loc', hr, hb', hj', rfl⟩
    by_cases hne : b' = H.nb
    · subst hne
      rw [upd_same] at hj'
      obtain rfl := Option.some.inj hj'
      simp only at hk
      omega
    · rw [jold b' hne] at hj'
      exact ⟨b', cs', loc', by simpa using hr, gold b' cs' hne hb', hj', rfl⟩
  · refine ⟨_, cap', upd_same .., hle, by simp, by simp, ?_⟩
    simpa using he

theorem newSl_sound {j j' : JM} {H H' H2 : Heap} {w w' : World} {size : Nat} {v v2 : AV} {c : Value} (hw : WR j H w) (htr : Trans j H.frz w j' H' w') (hv : VR j' v c) (h : newSl H size H' v = some (v2, H2)) :
    ∃ j2, Trans j H w j2 H2 w' ∧ VR j2 v2 c := by
  unfold newSl at h
  split at h
  · simp only [Option.some.injEq, Prod.mk.injEq] at h
    obtain ⟨rfl, rfl⟩ := h
    exact ⟨j, quiet_trans hw (no_own_frz hw) htr, hv⟩
  · rename_i b off len z
    obtain ⟨hb, h⟩ := bif_some h
    simp only [Bool.and_eq_true, Nat.beq_eq] at hb
    obtain ⟨hnb, rfl⟩ := hb
    split at h
    · rename_i cs hcs
      obtain ⟨hsc, h⟩ := bif_some h
      simp only [Option.some.injEq, Prod.mk.injEq] at h
      obtain ⟨rfl, rfl⟩ := h
      exact newSl_gen hw (no_own_frz hw) htr hv (by rw [wr_frz]; exact hnb) hcs hsc
    · simp at h
  · simp at h

/-- what is known of calls is so -/
def GoodS (P : Program) (sp : Nat → List AV → Option AV) : Prop := ∀ f args v, sp f args = some v →
  (∀ (l : Array Value) (w : World), (callFunc f l).run P w = .ok (.enter f l) w) ∧ ∀ (j : JM) (H : Heap) (w : World) (l : List Value), WR j H w → VRs j args l → Calls P f l.toArray w (FnPost j H w v H)

/-- a function's own evaluator says what the loaded function does, wherever what it calls does -/
def GoodX (P : Program) (md : Nat → Nat) (hx : Nat → Option (CallF → Nat → List AV → Heap → Option (AV × Heap))) : Prop := ∀ f g, hx f = some g → md f = 0 ∧
  (∀ (l : Array Value) (w : World), (callFunc f l).run P w = .ok (.enter f l) w) ∧ ∀ callF, CallOk P callF → CallCls callF md → CallMono callF → ∀ n args H v H', g callF n args H = some (v, H') →
    Mono H H' ∧ ∀ (j : JM) (w : World) (l : List Value), WR j H w → VRs j args l → Calls P f l.toArray w (FnPost j H w v H')

structure GoodTab (P : Program) (md : Nat → Nat) (T : Tab) : Prop where
  fn : GoodT P md T.fn
  sp : GoodS P T.sp
  hx : GoodX P md T.hx := by exact fun _ _ h => nomatch h

theorem evF_sound {md : Nat → Nat} {T : Tab} (hG : GoodTab P md T) (hmix : P.follows .mixedOrders = true) : ∀ n, CallOk P (evF T n) ∧ CallCls (evF T n) md ∧ CallMono (evF T n)
  | 0 => ⟨fun f vs H v H' h => by simp [evF] at h, fun f args h v h' hr => by simp [evF] at hr, fun f args h v h' hr => by simp [evF] at hr⟩
  | n + 1 => by
    obtain ⟨ihc, ihm, iho⟩ := evF_sound hG hmix n
    have hT := hG.fn
    refine ⟨?_, ?_, ?_⟩
    · intro f vs H v H' h j w l hw hl
      simp only [evF] at h
      split at h
      · rename_i v0 hsp
        simp only [Option.some.injEq, Prod.mk.injEq] at h
        obtain ⟨rfl, rfl⟩ := h
        obtain ⟨s1, s2⟩ := hG.sp _ _ _ hsp
        exact ⟨fun w => s1 _ w, s2 j _ w l hw hl⟩
      split at h
      · rename_i g hg
        obtain ⟨_, x1, x2⟩ := hG.hx _ _ hg
        exact ⟨fun w => x1 _ w, (x2 _ ihc ihm iho _ _ _ _ _ h).2 j w l hw hl⟩
      unfold evT at h
      split at h
      · simp at h
      rename_i F hF
      have hgood := (hT f F hF).2
      obtain ⟨fn, code, hf, hb, hn, _, _⟩ := hgood
      refine ⟨fun w => run_callFunc hf hb hn _ w, ?_⟩
      have hgood := (hT f F hF).2
      split at h
      · exact body_sound ihc ihm iho hmix hgood hw hl h
      · split at h
        · rename_i u h1 hev
          obtain ⟨hfree, h⟩ := bif_some h
          simp only [Option.some.injEq, Prod.mk.injEq] at h
          obtain ⟨rfl, rfl⟩ := h
          refine (body_sound ihc ihm iho hmix hgood hw.frz hl hev).mono ?_
          rintro en w' ⟨j', c, htr, hv, rfl⟩
          exact ⟨j, c, quiet_trans hw (no_own_frz hw) htr, VR.frees hfree hv, rfl⟩
        · simp at h
      · obtain ⟨hafree, h⟩ := bif_some h
        split at h
        · rename_i u h1 hev
          obtain ⟨hfree, h⟩ := bif_some h
          simp only [Option.some.injEq, Prod.mk.injEq] at h
          obtain ⟨rfl, rfl⟩ := h
          refine (body_sound ihc ihm iho hmix hgood (WR.empty w hw.gsz hw.inv) (VRs.allFree hafree hl) hev).mono ?_
          rintro en w' ⟨j', c, htr, hv, rfl⟩
          exact ⟨j, c, quiet_trans hw no_own_empty htr, VR.frees hfree hv, rfl⟩
        · simp at h
      · split at h
        · rename_i u h1 hev
          refine (body_sound ihc ihm iho hmix hgood hw.frz hl hev).mono ?_
          rintro en w' ⟨j', c, htr, hv, rfl⟩
          obtain ⟨j2, h2, h3⟩ := newSl_sound hw htr hv h
          exact ⟨j2, c, h2, h3, rfl⟩
        · simp at h
      · simp at h
    · intro f args h v h' hr
      simp only [evF] at hr
      split at hr
      · rename_i v0 hsp
        simp only [Option.some.injEq, Prod.mk.injEq] at hr
        obtain ⟨rfl, rfl⟩ := hr
        exact ⟨fun _ => ⟨rfl, fun h2 => by simp only [evF, hsp]⟩, fun _ => rfl⟩
      rename_i hsp
      split at hr
      · rename_i g hg
        obtain ⟨x0, _, _⟩ := hG.hx _ _ hg
        exact ⟨fun hm => by rw [x0] at hm; simp at hm, fun hm => by rw [x0] at hm; simp at hm⟩
      rename_i hhx
      unfold evT at hr
      split at hr
      · simp at hr
      rename_i F hF
      rw [← (hT f F hF).1]
      refine ⟨fun hm => ?_, fun hm => ?_⟩
      · rw [hm] at hr
        simp only at hr
        obtain ⟨hafree, hr⟩ := bif_some hr
        split at hr
        · rename_i u h1 hev
          obtain ⟨hfree, hr⟩ := bif_some hr
          simp only [Option.some.injEq, Prod.mk.injEq] at hr
          obtain ⟨rfl, rfl⟩ := hr
          refine ⟨rfl, fun h2 => ?_⟩
          simp only [evF, evT, hsp, hhx, hF, hm, hafree, cond_true, hev, hfree]
        · simp at hr
      · rw [hm] at hr
        simp only at hr
        split at hr
        · obtain ⟨_, hr⟩ := bif_some hr
          simp only [Option.some.injEq, Prod.mk.injEq] at hr
          exact hr.2.symm
        · simp at hr
    · intro f args h v h' hr
      simp only [evF] at hr
      split at hr
      · simp only [Option.some.injEq, Prod.mk.injEq] at hr
        rw [hr.2]; exact Mono.refl _
      split at hr
      · rename_i g hg
        exact ((hG.hx _ _ hg).2.2 _ ihc ihm iho _ _ _ _ _ hr).1
      unfold evT at hr
      split at hr
      · simp at hr
      split at hr
      · exact mono_body ihm iho hr
      · split at hr
        · obtain ⟨_, hr⟩ := bif_some hr
          simp only [Option.some.injEq, Prod.mk.injEq] at hr
          rw [hr.2]; exact Mono.refl _
        · simp at hr
      · obtain ⟨_, hr⟩ := bif_some hr
        split at hr
        · obtain ⟨_, hr⟩ := bif_some hr
          simp only [Option.some.injEq, Prod.mk.injEq] at hr
          rw [hr.2]; exact Mono.refl _
        · simp at hr
      · split at hr
        · unfold newSl at hr
          split at hr
          · simp only [Option.some.injEq, Prod.mk.injEq] at hr
            rw [hr.2]; exact Mono.refl _
          · obtain ⟨_, hr⟩ := bif_some hr
            split at hr
            · obtain ⟨_, hr⟩ := bif_some hr
              simp only [Option.some.injEq, Prod.mk.injEq] at hr
              obtain ⟨_, rfl⟩ := hr
              exact Mono.push _ _
            · simp at hr
          · simp at hr
        · simp at hr
      · simp at hr

/-- THE SOUNDNESS of the evaluator -/
theorem sound {md : Nat → Nat} {T : Tab} (hT : GoodTab P md T) (hmix : P.follows .mixedOrders = true) {n f : Nat} {args : List AV} {H H' : Heap} {v : AV} (h : evF T n f args H = some (v, H'))
    {j : JM} {w : World} {l : List Value} (hw : WR j H w) (hl : VRs j args l) : Calls P f l.toArray w (FnPost j H w v H') :=
  (((evF_sound hT hmix n).1) f args H v H' h j w l hw hl).2

end
end Go.Ev

/- The table of functions: made out of the loaded program. -/

namespace Go.Ev
set_option linter.unusedSectionVars false
set_option linter.unusedVariables false
set_option linter.unusedSimpArgs false
open Go

def mkF (P : Program) (md : Nat → Nat) (f mode size : Nat) : Option AFunc :=
  match P.funcs[f]? with
  | some fn => if fn.name == "runtime.NumGoroutine" then none else
    match fn.body with
    | some code => match cC P md fn.ntmps code, cRes P fn.results.toList with
      | some body, some rs => some ⟨mode, size, rs, body⟩
      | _, _ => none
    | none => none
  | none => none

theorem mkF_good {P : Program} {md : Nat → Nat} {f mode size : Nat} {F : AFunc} (h : mkF P md f mode size = some F) : F.mode = mode ∧ GoodF P md f F := by
  unfold mkF at h
  split at h <;> (try simp at h; done)
  rename_i fn hfn
  split at h <;> (try simp at h; done)
  rename_i hn
  split at h <;> (try simp at h; done)
  rename_i code hcode
  split at h <;> (try simp at h; done)
  rename_i body rs hb hr
  obtain rfl := Option.some.inj h
  exact ⟨rfl, fn, code, hfn, hcode, by simpa using hn, hb, hr⟩

/-- the table of the functions that are on, each out of the program itself -/
def autoT (P : Program) (md sz : Nat → Nat) (on : Nat → Bool) (f : Nat) : Option AFunc := bif on f then mkF P md f (md f) (sz f) else none
theorem autoT_good (P : Program) (md sz : Nat → Nat) (on : Nat → Bool) : GoodT P md (autoT P md sz on) := by
  intro f F h
  unfold autoT at h
  cases ho : on f with
  | false => rw [ho] at h; simp at h
  | true => rw [ho] at h; exact mkF_good h

theorem good_of_mkF {P : Program} {md : Nat → Nat} {f k mode size : Nat} {F G : AFunc} (hf : f.beq k = true) (h : some G = some F) (g : mkF P md k mode size = some G) (hm : md k = mode) : F.mode = md f ∧ GoodF P md f F := by
  obtain rfl : f = k := Nat.eq_of_beq_eq_true hf
  obtain rfl := Option.some.inj h
  obtain ⟨a, b⟩ := mkF_good g
  exact ⟨a.trans hm.symm, b⟩

theorem bif_split {α : Type} {b : Bool} {x y z : α} {p : Prop} (h : (bif b then x else y) = z) (h1 : b = true → x = z → p) (h2 : y = z → p) : p := by
  cases b with
  | true => exact h1 rfl h
  | false => exact h2 h

/-! ### short words for the tables -/
abbrev A1 (d : Nat) (o : AOp) : AIns := ⟨some d, none, o⟩
abbrev A0 (o : AOp) : AIns := ⟨none, none, o⟩
abbrev Z6 (n : Int) : Opd := .c (.int .i64 n)
abbrev Z3 (n : Int) : Opd := .c (.int .u64 n)
abbrev V (n : Nat) : Opd := .t n
abbrev Q (a b : ACode) : ACode := .seq a b

end Go.Ev

/- What came in, brought into the evaluator's heap. -/

namespace Go.Ev
set_option linter.unusedSectionVars false
variable [Home]
set_option linter.unusedVariables false
set_option linter.unusedSimpArgs false
open Go

inductive LK where
  | bool
  | int (k : IntKind)
  | float (k : FloatKind)
  | str

def leafFs (P : Program) (go : TypeId → Option (List LK)) : List Field → Nat → Option (List LK)
  | [], _ => some []
  | f :: fs, n => if f.offset = n then (match go f.type with
      | some ks => if P.cellsOf f.type = ks.length then (match leafFs P go fs (n + ks.length) with
        | some rest => some (ks ++ rest)
        | none => none) else none
      | none => none) else none

/-- the leaves of a type without pointers, one behind the other -/
def leaves (P : Program) : Nat → TypeId → Option (List LK)
  | 0, _ => none
  | d + 1, t => match P.underlying t with
    | some .bool => some [.bool]
    | some (.int k) => some [.int k]
    | some (.float k) => some [.float k]
    | some .string => some [.str]
    | some (.struct fs) => match leafFs P (leaves P d) fs.toList 0 with
      | some ks => if P.cellsOf t = ks.length then some ks else none
      | none => none
    | some (.array n e) => match leaves P d e with
      | some ks => if P.cellsOf e = ks.length ∧ P.cellsOf t = n * ks.length then some (List.replicate n ks).flatten else none
      | none => none
    | _ => none

def cellIs : LK → AV → Prop
  | .bool, v => ∃ b, v = .bool b
  | .int k, v => ∃ n, v = .int k n ∧ (Lit.int k n).wf = true
  | .float k, v => ∃ n, v = .float k n ∧ (Lit.float k n).wf = true
  | .str, v => ∃ s, v = .str s ∧ s.length ≤ maxLen

def RowIs : List LK → List AV → Prop
  | [], l => l = []
  | k :: ks, l => ∃ x xs, l = x :: xs ∧ cellIs k x ∧ RowIs ks xs

theorem RowIs.append {a b : List LK} {x y : List AV} (h : RowIs a x) (k : RowIs b y) : RowIs (a ++ b) (x ++ y) := by
  induction a generalizing x with
  | nil => simp only [RowIs] at h; subst h; exact k
  | cons c cs ih => obtain ⟨v, vs, rfl, h1, h2⟩ := h; exact ⟨v, vs ++ y, rfl, h1, ih h2⟩

theorem RowIs.length {ks : List LK} {x : List AV} (h : RowIs ks x) : x.length = ks.length := by
  induction ks generalizing x with
  | nil => simp only [RowIs] at h; subst h; rfl
  | cons c cs ih => obtain ⟨v, vs, rfl, _, h2⟩ := h; simp [ih h2]

theorem RowIs.one {ks : List LK} {x : List AV} (h : RowIs ks x) : x.all AV.one = true ∧ x.all AV.scalar = true := by
  induction ks generalizing x with
  | nil => simp only [RowIs] at h; subst h; exact ⟨rfl, rfl⟩
  | cons c cs ih =>
    obtain ⟨v, vs, rfl, h1, h2⟩ := h
    obtain ⟨a, b⟩ := ih h2
    cases c <;> simp only [cellIs] at h1
    · obtain ⟨_, rfl⟩ := h1; simp [AV.one, AV.scalar, a, b]
    · obtain ⟨_, rfl, _⟩ := h1; simp [AV.one, AV.scalar, a, b]
    · obtain ⟨_, rfl, _⟩ := h1; simp [AV.one, AV.scalar, a, b]
    · obtain ⟨_, rfl, _⟩ := h1; simp [AV.one, AV.scalar, a, b]

theorem mapM_all {α β : Type} {f : α → Option β} : ∀ {l : List α} {r : List β}, l.mapM f = some r → ∀ x ∈ l, ∃ y, f x = some y
  | [], _, _, x, hx => by simp at hx
  | a :: l, r, h, x, hx => by
    rw [List.mapM_cons] at h
    simp only [bind, Option.bind_eq_some_iff] at h
    obtain ⟨y, hy, ys, hys, _⟩ := h
    rcases List.mem_cons.1 hx with rfl | hx
    · exact ⟨y, hy⟩
    · exact mapM_all hys x hx


section
variable {H : Type} {enc : TypeId × Value → H} {P : Program} {w : World} {base : Nat} {spare : Nat → Bool} {held : Bool}

/-- what is read of a type without pointers -/
def CellsOk (P : Program) (w : World) (base : Nat) (spare : Nat → Bool) (held : Bool) (enc : TypeId × Value → H) (t : TypeId) (ks : List LK) : Prop :=
  ∀ (fuel : Nat) (cs : List Value) (x : DataW H × List MemPlace), DataW.trod enc P w base spare held fuel t cs = some x → ∃ xs, (∀ j, VRs j xs cs) ∧ RowIs ks xs

theorem mapM_cons_some {α β : Type} {f : α → Option β} {a : α} {l : List α} {r : List β} (h : (a :: l).mapM f = some r) : ∃ y ys, f a = some y ∧ l.mapM f = some ys := by
  rw [List.mapM_cons] at h
  simp only [bind, Option.bind_eq_some_iff] at h
  obtain ⟨y, hy, ys, hys, _⟩ := h
  exact ⟨y, ys, hy, hys⟩

theorem imp_fields {go : TypeId → Option (List LK)} (hgo : ∀ t ks, go t = some ks → CellsOk P w base spare held enc t ks) {fuel : Nat} {cs : List Value} :
    ∀ (fs : List Field) (n : Nat) (ks : List LK), leafFs P go fs n = some ks → ∀ {r : List (DataW H × List MemPlace)}, (fs.mapM fun f => DataW.trod enc P w base spare held fuel f.type ((cs.drop f.offset).take (P.cellsOf f.type))) = some r →
    ∃ xs, (∀ j, VRs j xs ((cs.drop n).take ks.length)) ∧ RowIs ks xs
  | [], n, ks, h, r, hm => by
    simp only [leafFs, Option.some.injEq] at h
    subst h
    exact ⟨[], fun j => by simp [VRs], rfl⟩
  | f :: fs, n, ks, h, r, hm => by
    simp only [leafFs] at h
    split at h <;> (try simp at h; done)
    rename_i ho
    split at h <;> (try simp at h; done)
    rename_i k1 hk1
    split at h <;> (try simp at h; done)
    rename_i hc
    split at h <;> (try simp at h; done)
    rename_i rest hr
    obtain rfl := Option.some.inj h
    obtain ⟨y, ys, hy, hys⟩ := mapM_cons_some hm
    obtain ⟨a, ha, ha2⟩ := hgo _ _ hk1 _ _ _ hy
    obtain ⟨b, hb, hb2⟩ := imp_fields hgo fs _ _ hr hys
    refine ⟨a ++ b, fun j => ?_, ha2.append hb2⟩
    rw [List.length_append, List.take_add, List.drop_drop]
    subst ho
    rw [hc] at ha
    exact (ha j).append (hb j)

theorem imp_elems {e : TypeId} {ks : List LK} (hgo : CellsOk P w base spare held enc e ks) (hc : P.cellsOf e = ks.length) {fuel : Nat} {cs : List Value} :
    ∀ (m s : Nat) {r : List (DataW H × List MemPlace)}, ((List.range' s m).mapM fun i => DataW.trod enc P w base spare held fuel e ((cs.drop (i * P.cellsOf e)).take (P.cellsOf e))) = some r →
    ∃ xs, (∀ j, VRs j xs ((cs.drop (s * ks.length)).take (m * ks.length))) ∧ RowIs (List.replicate m ks).flatten xs
  | 0, s, r, hm => ⟨[], fun j => by simp [VRs], by simp [RowIs]⟩
  | m + 1, s, r, hm => by
    rw [List.range'_succ] at hm
    obtain ⟨y, ys, hy, hys⟩ := mapM_cons_some hm
    obtain ⟨a, ha, ha2⟩ := hgo _ _ _ hy
    obtain ⟨b, hb, hb2⟩ := imp_elems hgo hc m (s + 1) hys
    rw [hc] at ha
    refine ⟨a ++ b, fun j => ?_, ?_⟩
    · rw [Nat.succ_mul, Nat.add_comm (m * _), List.take_add, List.drop_drop]
      have := hb j
      rw [Nat.succ_mul] at this
      exact (ha j).append this
    · rw [List.replicate_succ, List.flatten_cons]
      exact ha2.append hb2

theorem imp_cells : ∀ (dd : Nat) (t : TypeId) (ks : List LK), leaves P dd t = some ks → CellsOk P w base spare held enc t ks
  | 0, _, _, h => by simp [leaves] at h
  | dd + 1, t, ks, h => by
    intro fuel cs x hd
    cases fuel with
    | zero => simp [DataW.trod] at hd
    | succ fuel =>
    simp only [leaves] at h
    cases hu : P.underlying t with
    | none => simp [hu] at h
    | some u =>
      cases u <;> simp only [hu] at h <;> (try simp at h; done)
      case bool =>
        obtain rfl := Option.some.inj h
        simp only [DataW.trod, hu] at hd
        split at hd <;> first
          | (exact ⟨[.bool _], fun j => ⟨_, [], rfl, rfl, rfl⟩, ⟨_, [], rfl, ⟨_, rfl⟩, rfl⟩⟩)
          | (exfalso; simp_all; done)
      case int k =>
        obtain rfl := Option.some.inj h
        simp only [DataW.trod, hu] at hd
        split at hd <;> first
          | (rename_i k2 k' n he
             split at hd <;> (try simp at hd; done)
             rename_i hk
             obtain rfl : k = k2 := by simpa using he
             obtain ⟨rfl, hwf⟩ := hk
             exact ⟨[.int _ n], fun j => ⟨_, [], rfl, rfl, rfl⟩, ⟨_, [], rfl, ⟨n, rfl, hwf⟩, rfl⟩⟩)
          | (exfalso; simp_all; done)
      case float k =>
        obtain rfl := Option.some.inj h
        simp only [DataW.trod, hu] at hd
        split at hd <;> first
          | (rename_i k2 k' n he
             split at hd <;> (try simp at hd; done)
             rename_i hk
             obtain rfl : k = k2 := by simpa using he
             obtain ⟨rfl, hwf⟩ := hk
             exact ⟨[.float _ n], fun j => ⟨_, [], rfl, rfl, rfl⟩, ⟨_, [], rfl, ⟨n, rfl, hwf⟩, rfl⟩⟩)
          | (exfalso; simp_all; done)
      case string =>
        obtain rfl := Option.some.inj h
        simp only [DataW.trod, hu] at hd
        split at hd <;> first
          | (rename_i s he
             split at hd <;> (try simp at hd; done)
             rename_i hs
             exact ⟨[.str s.data.toList], fun j => ⟨_, [], rfl, (by simp [VR]), rfl⟩, ⟨_, [], rfl, ⟨_, rfl, by simpa using hs⟩, rfl⟩⟩)
          | (exfalso; simp_all; done)
      case struct fs =>
        split at h <;> (try simp at h; done)
        rename_i k1 hk1
        split at h <;> (try simp at h; done)
        rename_i hc
        obtain rfl := Option.some.inj h
        simp only [DataW.trod, hu] at hd
        split at hd <;> (try simp at hd; done)
        rename_i hl
        obtain ⟨r, hr, _⟩ := Option.map_eq_some_iff.1 hd
        obtain ⟨xs, h1, h2⟩ := imp_fields (fun t ks h => imp_cells dd t ks h) _ _ _ hk1 hr
        refine ⟨xs, fun j => ?_, h2⟩
        have := h1 j
        rw [List.drop_zero, List.take_of_length_le (by omega)] at this
        exact this
      case array n e =>
        split at h <;> (try simp at h; done)
        rename_i k1 hk1
        split at h <;> (try simp at h; done)
        rename_i hc
        obtain rfl := Option.some.inj h
        simp only [DataW.trod, hu] at hd
        split at hd <;> (try simp at hd; done)
        rename_i hl
        obtain ⟨r, hr, _⟩ := Option.map_eq_some_iff.1 hd
        rw [List.range_eq_range'] at hr
        obtain ⟨xs, h1, h2⟩ := imp_elems (imp_cells dd e k1 hk1) hc.1 n 0 hr
        refine ⟨xs, fun j => ?_, h2⟩
        have := h1 j
        rw [Nat.zero_mul, List.drop_zero, List.take_of_length_le (by omega)] at this
        exact this

end
end Go.Ev

/- The arguments of a law brought into the evaluator's heap, and what the evaluator's answer says of the call. -/

namespace Go.Ev
set_option linter.unusedSectionVars false
variable [Home]
set_option linter.unusedVariables false
set_option linter.unusedSimpArgs false
open Go Go.RowKit

/-! ### a read-only block more -/
def Heap.pushRo (H : Heap) (cs : List AV) : Heap := (H.push cs).frz

def JM.put (j : JM) (b : Nat) (l : Loc) : JM := fun x => if x = b then some l else j x

theorem Ext.put {j : JM} {H : Heap} {w : World} (hw : WR j H w) (l : Loc) : Ext j (j.put H.nb l) := by
  intro b loc h
  have := hw.dom _ _ h
  simp only [JM.put]
  rw [if_neg (ne_nb this)]
  exact h

/-- the base of a law's call: all blocks are read-only -/
structure Base (j : JM) (H : Heap) (w : World) : Prop where
  wr : WR j H w
  ro : ∀ b, H.wr b = !(H.has b)

theorem Base.empty (w : World) (hg : Home.G ≤ w.heap.size) (hi : Home.I w) : Base (fun _ => none) Heap.empty w where
  wr := {
    dom := fun b loc h => by simp at h
    hdom := fun b cs h => by simp [Heap.empty, Heap.get, Tr.get] at h
    cell := fun b cs h => by simp [Heap.empty, Heap.get, Tr.get] at h
    own := fun b cs loc _ h => by simp [Heap.empty, Heap.get, Tr.get] at h
    apart := fun b b' cs cs' loc loc' _ _ h => by simp [Heap.empty, Heap.get, Tr.get] at h
    gsz := hg
    inv := hi
    lo := fun b cs loc _ h => by simp [Heap.empty, Heap.get, Tr.get] at h }
  ro := fun b => by rw [wr_empty, has_empty]; rfl

theorem Base.noOwn {j : JM} {H : Heap} {w : World} (h : Base j H w) (k : Nat) : ¬ Own j H k := by
  rintro ⟨b, cs, loc, h1, h2, _, _⟩
  have h3 := h.wr.hdom _ _ h2
  rw [h.ro, h3] at h1
  simp at h1

theorem Base.put {j : JM} {H : Heap} {w : World} (h : Base j H w) {cs : List AV} {l : Loc} (hb : l.blk < w.heap.size) (he : cs.length ≤ l.ext)
    (hc : ∀ i x, cs[i]? = some x → ∃ c, w.cell? ⟨l.blk, l.off + i, none⟩ = some c ∧ ∀ j, VR j x c) : Base (j.put H.nb l) (H.pushRo cs) w where
  wr := {
    dom := fun b loc hj => by
      simp only [JM.put] at hj
      split at hj
      · subst b; exact has_push_nb H cs
      · exact has_push cs (h.wr.dom _ _ hj)
    hdom := fun b cs' hg => by
      simp only [Heap.pushRo, Heap.get_frz, Heap.get_push] at hg
      split at hg
      · subst b; exact has_push_nb H cs
      · exact has_push cs (h.wr.hdom _ _ hg)
    cell := fun b cs' hg => by
      simp only [Heap.pushRo, Heap.get_frz, Heap.get_push] at hg
      split at hg
      · subst b
        obtain rfl := Option.some.inj hg
        refine ⟨l, by simp [JM.put], hb, he, fun i x hx => ?_⟩
        obtain ⟨c, h1, h2⟩ := hc i x hx
        exact ⟨c, h1, h2 _⟩
      · obtain ⟨loc, h1, h2, h3, h4⟩ := h.wr.cell _ _ hg
        refine ⟨loc, Ext.put h.wr l _ _ h1, h2, h3, fun i x hx => ?_⟩
        obtain ⟨c, h5, h6⟩ := h4 i x hx
        exact ⟨c, h5, h6.mono (Ext.put h.wr l)⟩
    own := fun b cs' loc hr hg => by
      exfalso
      simp only [Heap.pushRo, Heap.get_frz, Heap.get_push] at hg
      rw [show (H.pushRo cs).wr _ = !((H.push cs).has _) from wr_frz (H.push cs) _] at hr
      split at hg
      · rename_i e; rw [e, has_push_nb] at hr; simp at hr
      · have := has_push cs (h.wr.hdom _ _ hg)
        rw [this] at hr
        simp at hr
    apart := fun b b' cs' cs'' loc loc' hr _ hg => by
      exfalso
      simp only [Heap.pushRo, Heap.get_frz, Heap.get_push] at hg
      rw [show (H.pushRo cs).wr _ = !((H.push cs).has _) from wr_frz (H.push cs) _] at hr
      split at hg
      · rename_i e; rw [e, has_push_nb] at hr; simp at hr
      · have := has_push cs (h.wr.hdom _ _ hg)
        rw [this] at hr
        simp at hr
    gsz := h.wr.gsz
    inv := h.wr.inv
    lo := fun b cs' loc hr hg => by
      exfalso
      simp only [Heap.pushRo, Heap.get_frz, Heap.get_push] at hg
      rw [show (H.pushRo cs).wr _ = !((H.push cs).has _) from wr_frz (H.push cs) _] at hr
      split at hg
      · rename_i e; rw [e, has_push_nb] at hr; simp at hr
      · have := has_push cs (h.wr.hdom _ _ hg)
        rw [this] at hr
        simp at hr }
  ro := fun b => wr_frz (H.push cs) b

section
variable {H : Type} {enc : TypeId × Value → H} {P : Program} {w : World} {spare : Nat → Bool} {held : Bool} {r : Reach} {b0 : Nat}

/-- a struct or an array -/
theorem imp_row {t : TypeId} {v : Value} {d : DataW H} {p : List MemPlace} {ks : List LK} (dd : Nat) (hk : leaves P dd t = some ks)
    (hu : (match P.underlying t with | some (.struct _) => true | some (.array _ _) => true | _ => false) = true)
    (hval : Value.okWide P w r b0 t v) (h : DataW.Trod enc P w 0 spare held t v d p) :
    ∃ xs, (∀ j, VR j (.agg xs) v) ∧ RowIs ks xs := by
  have : ∃ cs, v = .agg cs := by
    unfold Value.okWide at hval
    split at hu
    · rename_i e; simp only [e] at hval; obtain ⟨cs, rfl, _⟩ := hval; exact ⟨cs, rfl⟩
    · rename_i e; simp only [e] at hval; obtain ⟨cs, rfl, _⟩ := hval; exact ⟨cs, rfl⟩
    · simp at hu
  obtain ⟨cs, rfl⟩ := this
  obtain ⟨fuel, hf⟩ := h
  obtain ⟨xs, h1, h2⟩ := imp_cells dd t ks hk _ _ _ hf
  refine ⟨xs, fun j => ⟨_, ?_, h1 j⟩, h2⟩
  simp [Value.cells]

theorem heap_of_shape {b : Nat} {x : TypeId × Nat} (h : w.shape? b = some x) : b < w.heap.size := by
  unfold World.shape? at h
  cases e : w.heap[b]? with
  | none => simp [e] at h
  | some o => exact (Array.getElem?_eq_some_iff.1 e).1

/-- a slice -/
theorem imp_slice {t e : TypeId} {v : Value} {d : DataW H} {p : List MemPlace} {ks : List LK} (dd : Nat) (ht : P.underlying t = some (.slice e)) (hk : leaves P dd e = some ks) (hc : P.cellsOf e = ks.length)
    (hval : Value.okWide P w r b0 t v) (h : DataW.Trod enc P w 0 spare held t v d p) :
    v = .slice none 0 0 ∨ ∃ blk off len cap xs, v = .slice (some ⟨blk, off, none⟩) len cap ∧ len ≤ cap ∧ cap ≤ maxLen ∧ blk < w.heap.size ∧ RowIs (List.replicate len ks).flatten xs ∧
      ∀ i x, xs[i]? = some x → ∃ c, w.cell? ⟨blk, off + i, none⟩ = some c ∧ ∀ j, VR j x c := by
  obtain ⟨fuel, hf⟩ := h
  have hv : v.cells.toList = [v] ∧ (∀ a len cap, v = .slice (some a) len cap → a.spot = none ∧ a.block < w.heap.size) := by
    unfold Value.okWide at hval
    simp only [ht, Cell.okWide, Cell.ok] at hval
    cases v <;> simp at hval <;> refine ⟨by simp [Value.cells], ?_⟩
    rename_i a len cap
    intro a' len' cap' he
    simp only [Value.slice.injEq] at he
    obtain ⟨rfl, rfl, rfl⟩ := he
    simp at hval
    obtain ⟨_, _, _, hs, x, y, hsh, _⟩ := hval
    exact ⟨hs, heap_of_shape hsh⟩
  rw [hv.1] at hf
  rcases DataW.trod_slice ht hf with ⟨h0, _⟩ | ⟨a, len, cap, elems, rest, n, _, hcs, _, _, hl, hm, hlen, hel, _, _⟩
  · left; simpa using h0
  · right
    have hve : v = .slice (some a) len cap := by simpa using hcs
    obtain ⟨hsp, hblk⟩ := hv.2 _ _ _ hve
    obtain ⟨blk, off, spot⟩ := a
    simp only at hsp hblk
    subst hsp
    have key : ∀ m, m ≤ len → ∃ xs, RowIs (List.replicate m ks).flatten xs ∧ ∀ i x, xs[i]? = some x → ∃ c, w.cell? ⟨blk, off + i, none⟩ = some c ∧ ∀ j, VR j x c := by
      intro m
      induction m with
      | zero => intro _; exact ⟨[], by simp [RowIs], fun i x hx => by simp at hx⟩
      | succ m ih =>
        intro hm'
        obtain ⟨xs, hx1, hx2⟩ := ih (by omega)
        have hh := hel m (by omega)
        have hlt : m < elems.length := by omega
        rw [List.getElem?_eq_getElem hlt, Option.bind_eq_some_iff] at hh
        obtain ⟨cs, hcs1, hcs2⟩ := hh
        obtain ⟨ys, hy1, hy2⟩ := imp_cells dd e ks hk _ _ _ hcs2
        obtain ⟨_, hcl, hcell⟩ := World.cells?_some hcs1
        refine ⟨xs ++ ys, ?_, fun i x hx => ?_⟩
        · rw [List.replicate_succ', List.flatten_append, List.flatten_cons, List.flatten_nil, List.append_nil]
          exact hx1.append hy2
        · have hxl : xs.length = m * ks.length := by rw [hx1.length]; simp
          by_cases hi : i < xs.length
          · rw [List.getElem?_append_left hi] at hx
            exact hx2 i x hx
          · rw [List.getElem?_append_right (by omega)] at hx
            have hyl : ys.length = cs.length := by rw [hy2.length, hcl, hc]
            have hi2 : i - xs.length < ys.length := (List.getElem?_eq_some_iff.1 hx).1
            have hc1 := hcell (i - xs.length) (by omega)
            obtain ⟨c, hc2, hc3⟩ : ∃ c, cs[i - xs.length]? = some c ∧ ∀ j, VR j x c := by
              have hlt : i - xs.length < cs.length := by omega
              refine ⟨cs[i - xs.length]'hlt, List.getElem?_eq_getElem hlt, fun j => ?_⟩
              obtain ⟨c, h1, h2⟩ := (hy1 j).get _ _ hx
              rw [List.getElem?_eq_getElem hlt] at h1
              obtain rfl := Option.some.inj h1
              exact h2
            refine ⟨c, ?_, hc3⟩
            rw [← hc2, ← hc1, WideShapes.add_plain, WideShapes.add_plain, hc, ← hxl]
            rw [show off + i = off + xs.length + (i - xs.length) by omega]
    obtain ⟨xs, hx1, hx2⟩ := key len (Nat.le_refl _)
    exact ⟨blk, off, len, cap, xs, hve, hl, hm, hblk, hx1, hx2⟩

/-- what a slice that is handed in is in the evaluator -/
theorem slice_put {j : JM} {Hp : Heap} (hb : Base j Hp w) {blk off len cap : Nat} {xs : List AV} {ks : List LK} (hl : len ≤ cap) (hblk : blk < w.heap.size) (hrow : RowIs (List.replicate len ks).flatten xs)
    (hcell : ∀ i x, xs[i]? = some x → ∃ c, w.cell? ⟨blk, off + i, none⟩ = some c ∧ ∀ j, VR j x c) :
    ∃ j', Ext j j' ∧ Base j' (Hp.pushRo xs) w ∧ VR j' (.sl Hp.nb 0 len none ks.length) (.slice (some ⟨blk, off, none⟩) len cap) := by
  refine ⟨j.put Hp.nb ⟨blk, off, cap * ks.length⟩, Ext.put hb.wr _, hb.put hblk ?_ hcell, ?_⟩
  · have := hrow.length
    simp only [List.length_flatten, List.map_replicate, List.sum_replicate_nat] at this
    rw [this]
    exact Nat.mul_le_mul_right _ hl
  · exact ⟨⟨blk, off, cap * ks.length⟩, cap, by simp [JM.put], hl, by simp, fun m hm => by simp at hm, Or.inl (by simp)⟩

/-- a slice that is handed in, in the evaluator: nothing, or a block of its own -/
def SlIn (ks : List LK) (Hp : Heap) (v : AV) (Hp' : Heap) (xs : List AV) (len : Nat) : Prop :=
  (v = .nilsl ∧ Hp' = Hp ∧ xs = [] ∧ len = 0) ∨ (v = .sl Hp.nb 0 len none ks.length ∧ Hp' = Hp.pushRo xs ∧ RowIs (List.replicate len ks).flatten xs)

theorem imp_sl {t e : TypeId} {v : Value} {d : DataW H} {p : List MemPlace} {ks : List LK} (dd : Nat) (ht : P.underlying t = some (.slice e)) (hk : leaves P dd e = some ks) (hc : P.cellsOf e = ks.length)
    (hval : Value.okWide P w r b0 t v) (h : DataW.Trod enc P w 0 spare held t v d p) {j : JM} {Hp : Heap} (hb : Base j Hp w) :
    ∃ j' Hp' v' xs len, Ext j j' ∧ Base j' Hp' w ∧ VR j' v' v ∧ SlIn ks Hp v' Hp' xs len ∧ len ≤ maxLen := by
  rcases imp_slice dd ht hk hc hval h with rfl | ⟨blk, off, len, cap, xs, rfl, hl, hm, hblk, hrow, hcell⟩
  · exact ⟨j, Hp, .nilsl, [], 0, Ext.refl j, hb, rfl, .inl ⟨rfl, rfl, rfl, rfl⟩, Nat.zero_le _⟩
  · obtain ⟨j', h1, h2, h3⟩ := slice_put hb hl hblk hrow hcell
    exact ⟨j', _, _, xs, len, h1, h2, h3, .inr ⟨rfl, rfl, hrow⟩, Nat.le_trans hl hm⟩

/-! ### what the evaluator's answer says of the call -/
theorem law_call {md : Nat → Nat} {T : Tab} (hT : GoodTab P md T) (hmix : P.follows .mixedOrders = true) {n f : Nat} {avs : List AV} {Hp : Heap} {j : JM} {args : List Value}
    (hb : Base j Hp w) (hl : VRs j avs args) (hev : ∃ H', evF T n f avs Hp = some (.bool true, H')) : Calls P f args.toArray w fun e W' => e = .returned (.bool true) ∧ Below w.heap.size w W' := by
  obtain ⟨H', hev⟩ := hev
  refine (sound hT hmix hev hb.wr hl).mono ?_
  rintro e W' ⟨j', c, htr, hv, rfl⟩
  simp only [VR] at hv
  subst hv
  exact ⟨rfl, htr.os, htr.tape, htr.output, htr.size, fun k hk => htr.keep k hk (hb.noOwn k)⟩

theorem trodAll_below (hlo : laidOutB P = true) {W W' : World} (hb : Below W.heap.size W W') : ∀ {ts : List TypeId} {vs : List Value} {ds : List (DataW H)} {p : List MemPlace},
    ts.all (fun t => P.readableRec t && decide (t < P.types.size)) = true →
    DataW.TrodAll enc P W 0 (fun _ => true) true ts vs ds p → DataW.TrodAll enc P W' 0 (fun b => decide (b < W.heap.size)) true ts vs ds p
  | [], [], [], _, _, h => h
  | t :: ts, v :: vs, d :: ds, p, ha, ⟨p1, q, h1, h2, h3⟩ => by
    simp only [List.all_cons, Bool.and_eq_true, decide_eq_true_eq] at ha
    refine ⟨p1, q, Below.trod hlo ha.1.1 ha.1.2 h1 hb ?_, trodAll_below hlo hb ha.2 h2, h3⟩
    intro x hx
    obtain ⟨m, hm⟩ := h1
    exact DataW.trod_lt m _ _ _ hm x hx
  | [], _ :: _, _, _, _, h => h.elim
  | [], [], _ :: _, _, _, h => h.elim
  | _ :: _, [], _, _, _, h => h.elim
  | _ :: _, _ :: _, [], _, _, h => h.elim

end
end Go.Ev

/- The evaluator that parts where a test's outcome is open: its answer is a tree of tests; what a branch answers is the evaluator's answer where the tests come out so. -/

namespace Go.Ev
set_option linter.unusedSectionVars false
variable [Home]
set_option linter.unusedVariables false
set_option linter.unusedSimpArgs false
open Go

inductive Br (α : Type) where
  | ret (x : α)
  | br (c : Bool) (t e : Br α)
  | bad

def Br.get {α : Type} : Br α → Option α
  | .ret x => some x
  | .br c t e => bif c then t.get else e.get
  | .bad => none

section
variable {α : Type}

/-- what a register's bool is: told, or decided ahead, or parted -/
def boolK (e : Env) (D : Tr Bool) (t : Nat) (k : Bool → Tr Bool → Br α) (other : Br α) : Br α :=
  match lk e t with
  | some (.bool x) => k x D
  | some (.symb x) => match D.get t with
    | some d => k d D
    | none => .br x (k true (D.set (t + 1) t (some true))) (k false (D.set (t + 1) t (some false)))
  | some _ => other
  | none => .bad

def guardK (g : Option (Nat × Bool)) (e : Env) (D : Tr Bool) (k : Bool → Tr Bool → Br α) : Br α :=
  match g with
  | none => k true D
  | some (t, b) => boolK e D t (fun x D => k (x == b) D) (k false D)

abbrev CallK (α : Type) := Nat → List AV → Heap → (AV → Heap → Br α) → Br α

def noCall : CallF := fun _ _ _ => none

def opK (callK : CallK α) (e : Env) (D : Tr Bool) (h : Heap) (k : AV → Tr Bool → Heap → Br α) : AOp → Br α
  | .call f args => match getAll e args with
    | some vs => callK f vs h (fun v h' => k v D h')
    | none => .bad
  | .callv x args => match x.get e with
    | some (.fn f first captured) => (match getAll e args with
      | some vs => callK f (first ++ vs ++ captured) h (fun v h' => k v D h')
      | none => .bad)
    | _ => .bad
  | .pick (.t t) a b => boolK e D t (fun x D => match (bif x then a.get e else b.get e) with
    | some v => k v D h
    | none => .bad) .bad
  | op => match op.run noCall e h with
    | some (v, h') => k v D h'
    | none => .bad

def dropD (D : Tr Bool) (dst : Option Nat) : Tr Bool := match dst with
  | some d => D.set (d + 1) d none
  | none => D

def insK (callK : CallK α) (i : AIns) (e : Env) (D : Tr Bool) (h : Heap) (k : Env → Tr Bool → Heap → Br α) : Br α :=
  guardK i.guard e D fun w D => bif w then opK callK e D h (fun v D h' => k (putE e i.dst v) (dropD D i.dst) h') i.op else k (putE e i.dst (.tup [])) (dropD D i.dst) h

def runK (callK : CallK α) : List AIns → Env → Tr Bool → Heap → (Env → Tr Bool → Heap → Br α) → Br α
  | [], e, D, h, k => k e D h
  | i :: r, e, D, h, k => insK callK i e D h fun e D h => runK callK r e D h k

abbrev ContK (α : Type) := AEx → Env → Tr Bool → Heap → Br α

def loopK (body : Env → Tr Bool → Heap → ContK α → Br α) : Nat → Env → Tr Bool → Heap → ContK α → Br α
  | 0, _, _, _, _ => .bad
  | n + 1, e, D, h, k => body e D h fun x e D h => match x with
    | .normal => loopK body n e D h k
    | .exit id => k (.exit id) e D h
    | .ret => k .ret e D h

def evK (callK : CallK α) (fuel : Nat) : ACode → Env → Tr Bool → Heap → ContK α → Br α
  | .skip, e, D, h, k => k .normal e D h
  | .ret, e, D, h, k => k .ret e D h
  | .exit id, e, D, h, k => k (.exit id) e D h
  | .region ins, e, D, h, k => runK callK ins e D h fun e D h => k .normal e D h
  | .regionD ins conf, e, D, h, k => runK callK ins e D (h.withLog []) fun e' D' h' => bif okConf e' h h'.log conf then k .normal e' D' (h'.withLog (h'.log ++ h.log)) else .bad
  | .seq a b, e, D, h, k => evK callK fuel a e D h fun x e D h => match x with
    | .normal => evK callK fuel b e D h k
    | .exit id => k (.exit id) e D h
    | .ret => k .ret e D h
  | .cond (.t t) a b, e, D, h, k => boolK e D t (fun x D => bif x then evK callK fuel a e D h k else evK callK fuel b e D h k) .bad
  | .cond (.c v) a b, e, D, h, k => match v with
    | .bool x => bif x then evK callK fuel a e D h k else evK callK fuel b e D h k
    | _ => .bad
  | .block id b, e, D, h, k => evK callK fuel b e D h fun x e D h => match x with
    | .normal => k .normal e D h
    | .exit id' => bif id'.beq id then k .normal e D h else k (.exit id') e D h
    | .ret => k .ret e D h
  | .loop b, e, D, h, k => loopK (fun e D h k => evK callK fuel b e D h k) fuel e D h k

def bodyK (callK : CallK α) (fuel : Nat) (F : AFunc) (args : List AV) (h : Heap) (k : AV → Heap → Br α) : Br α :=
  evK callK fuel F.body (params 0 args) .nil h fun x e _ h' => match x with
    | .exit _ => .bad
    | .normal => (match resOf e h' F.results with
      | some vs => k (single vs) h'
      | none => .bad)
    | .ret => (match resOf e h' F.results with
      | some vs => k (single vs) h'
      | none => .bad)

def evTK (T : Nat → Option AFunc) (callK : CallK α) (n f : Nat) (args : List AV) (h : Heap) (k : AV → Heap → Br α) : Br α :=
  match T f with
  | none => .bad
  | some F => match F.mode with
    | 0 => bodyK callK n F args h k
    | 1 => bodyK callK n F args h.frz fun v _ => bif v.free then k v h else .bad
    | 2 => bif args.all AV.free then bodyK callK n F args Heap.empty fun v _ => bif v.free then k v h else .bad else .bad
    | 3 => bodyK callK n F args h.frz fun v h' => match newSl h F.size h' v with
      | some (v, h2) => k v h2
      | none => .bad
    | _ => .bad

def evFK (T : Tab) : Nat → CallK α
  | 0, _, _, _, _ => .bad
  | n + 1, f, args, h, k => match T.sp f args with
    | some v => k v h
    | none => match T.hx f with
      | some _ => .bad
      | none => evTK T.fn (evFK T n) n f args h k

/-! ### what the tree says -/
def Dok (e : Env) (D : Tr Bool) : Prop := ∀ t d, D.get t = some d → lk e t = some (.symb d)

theorem Dok.nil (e : Env) : Dok e .nil := fun t d h => by simp [Tr.get] at h

theorem Dok.drop {e : Env} {D : Tr Bool} (h : Dok e D) (dst : Option Nat) (v : AV) : Dok (putE e dst v) (dropD D dst) := by
  intro t d hd
  cases dst with
  | none => exact h t d hd
  | some x =>
    simp only [dropD] at hd
    rw [Tr.get_set _ _ _ _ _ (by omega)] at hd
    split at hd
    · simp at hd
    · rename_i hne
      rw [lk_put]
      rw [if_neg (by simp; omega)]
      exact h t d hd

theorem Dok.decide {e : Env} {D : Tr Bool} (h : Dok e D) {t : Nat} {d : Bool} (hl : lk e t = some (.symb d)) : Dok e (D.set (t + 1) t (some d)) := by
  intro s x hx
  rw [Tr.get_set _ _ _ _ _ (by omega)] at hx
  split at hx
  · rename_i hs; subst hs; obtain rfl := Option.some.inj hx; exact hl
  · exact h s x hx

theorem boolK_get {e : Env} {D : Tr Bool} {t : Nat} {k : Bool → Tr Bool → Br α} {other : Br α} {r : α} (hD : Dok e D) (h : (boolK e D t k other).get = some r) :
    (∃ x D', Dok e D' ∧ (k x D').get = some r ∧ (lk e t = some (.bool x) ∨ lk e t = some (.symb x))) ∨
    (other.get = some r ∧ ∃ v, lk e t = some v ∧ (∀ x, v ≠ .bool x) ∧ ∀ x, v ≠ .symb x) := by
  unfold boolK at h
  split at h
  · rename_i x hx; exact .inl ⟨x, D, hD, h, .inl hx⟩
  · rename_i x hx
    split at h
    · rename_i d hd
      have := hD t d hd
      exact .inl ⟨d, D, hD, h, .inr this⟩
    · simp only [Br.get] at h
      cases x with
      | true => exact .inl ⟨true, _, hD.decide hx, h, .inr hx⟩
      | false => exact .inl ⟨false, _, hD.decide hx, h, .inr hx⟩
  · rename_i v h1 h2 hv
    exact .inr ⟨h, v, hv, fun x e => h1 x e, fun x e => h2 x e⟩
  · simp [Br.get] at h

theorem guardK_get {i : AIns} {e : Env} {D : Tr Bool} {k : Bool → Tr Bool → Br α} {r : α} (hD : Dok e D) (h : (guardK i.guard e D k).get = some r) :
    ∃ w D', i.wanted e = some w ∧ Dok e D' ∧ (k w D').get = some r := by
  obtain ⟨ds, g, op⟩ := i
  simp only [AIns.wanted, guardK] at h ⊢
  cases g with
  | none => exact ⟨true, D, rfl, hD, h⟩
  | some g =>
    obtain ⟨t, b⟩ := g
    simp only at h ⊢
    rcases boolK_get hD h with ⟨x, D', h1, h2, h3 | h3⟩ | ⟨h1, v, h2, h3, h4⟩
    · exact ⟨_, D', by rw [h3], h1, h2⟩
    · exact ⟨_, D', by rw [h3], h1, h2⟩
    · refine ⟨false, D, ?_, hD, h1⟩
      rw [h2]
      cases v <;> first | rfl | (exact absurd rfl (h3 _)) | (exact absurd rfl (h4 _))

def CK (callK : CallK α) (callF : CallF) : Prop := ∀ f vs h k r, (callK f vs h k).get = some r → ∃ v h', callF f vs h = some (v, h') ∧ (k v h').get = some r

theorem run_noCall {callF : CallF} {op : AOp} {e : Env} {h h' : Heap} {v : AV} (hr : op.run noCall e h = some (v, h')) : op.run callF e h = some (v, h') := by
  cases op
  case call f args =>
    simp only [AOp.run, noCall] at hr
    split at hr <;> simp at hr
  case callv x args =>
    obtain ⟨u, hu, h2⟩ := on1_some hr
    cases u <;> (try simp at h2; done)
    simp only [noCall] at h2
    split at h2 <;> simp at h2
  all_goals exact hr

theorem opK_get {callK : CallK α} {callF : CallF} (hc : CK callK callF) {op : AOp} {e : Env} {D : Tr Bool} {h : Heap} {k : AV → Tr Bool → Heap → Br α} {r : α} (hD : Dok e D)
    (hr : (opK callK e D h k op).get = some r) : ∃ v h' D', op.run callF e h = some (v, h') ∧ Dok e D' ∧ (k v D' h').get = some r := by
  unfold opK at hr
  split at hr
  · split at hr
    · rename_i vs hvs
      obtain ⟨v, h', h1, h2⟩ := hc _ _ _ _ _ hr
      exact ⟨v, h', D, by simp only [AOp.run, hvs]; exact h1, hD, h2⟩
    · simp [Br.get] at hr
  · split at hr
    · rename_i f fi ca hx
      split at hr
      · rename_i vs hvs
        obtain ⟨v, h', h1, h2⟩ := hc _ _ _ _ _ hr
        exact ⟨v, h', D, by simp only [AOp.run, hx, on1, hvs]; exact h1, hD, h2⟩
      · simp [Br.get] at hr
    · simp [Br.get] at hr
  · rename_i t a b
    rcases boolK_get hD hr with ⟨x, D', h1, h2, h3⟩ | ⟨h1, _⟩
    · split at h2
      · rename_i v hv
        refine ⟨v, h, D', ?_, h1, h2⟩
        simp only [AOp.run]
        show on1 (lk e t) _ = _
        rcases h3 with h3 | h3 <;> (rw [h3]; simp only [on1, hv, pureR])
      · simp [Br.get] at h2
    · simp [Br.get] at h1
  · split at hr
    · rename_i v h' hv
      exact ⟨v, h', D, run_noCall hv, hD, hr⟩
    · simp [Br.get] at hr

theorem insK_get {callK : CallK α} {callF : CallF} (hc : CK callK callF) {i : AIns} {e : Env} {D : Tr Bool} {h : Heap} {k : Env → Tr Bool → Heap → Br α} {r : α} (hD : Dok e D)
    (hr : (insK callK i e D h k).get = some r) : ∃ e' h' D', i.step callF e h = some (e', h') ∧ Dok e' D' ∧ (k e' D' h').get = some r := by
  unfold insK at hr
  obtain ⟨w, D1, hw, hD1, h1⟩ := guardK_get hD hr
  unfold AIns.step
  rw [hw]
  cases w with
  | true =>
    simp only [cond_true] at h1
    obtain ⟨v, h', D2, h2, h3, h4⟩ := opK_get hc hD1 h1
    refine ⟨putE e i.dst v, h', dropD D2 i.dst, by simp only [h2], h3.drop _ _, h4⟩
  | false =>
    simp only [cond_false] at h1
    exact ⟨_, h, dropD D1 i.dst, rfl, hD1.drop _ _, h1⟩

theorem runK_get {callK : CallK α} {callF : CallF} (hc : CK callK callF) : ∀ {l : List AIns} {e : Env} {D : Tr Bool} {h : Heap} {k : Env → Tr Bool → Heap → Br α} {r : α}, Dok e D →
    (runK callK l e D h k).get = some r → ∃ e' h' D', runIns callF l e h = some (e', h') ∧ Dok e' D' ∧ (k e' D' h').get = some r
  | [], e, D, h, k, r, hD, hr => ⟨e, h, D, rfl, hD, hr⟩
  | i :: l, e, D, h, k, r, hD, hr => by
    simp only [runK] at hr
    obtain ⟨e1, h1, D1, g1, g2, g3⟩ := insK_get hc hD hr
    obtain ⟨e2, h2, D2, g4, g5, g6⟩ := runK_get hc g2 g3
    exact ⟨e2, h2, D2, by simp only [runIns, g1]; exact g4, g5, g6⟩

theorem evK_get {callK : CallK α} {callF : CallF} (hc : CK callK callF) {fuel : Nat} : ∀ {c : ACode} {e : Env} {D : Tr Bool} {h : Heap} {k : ContK α} {r : α}, Dok e D →
    (evK callK fuel c e D h k).get = some r → ∃ x e' h' D', evC callF fuel c e h = some (x, e', h') ∧ Dok e' D' ∧ (k x e' D' h').get = some r
  | .skip, e, D, h, k, r, hD, hr => ⟨_, e, h, D, rfl, hD, hr⟩
  | .ret, e, D, h, k, r, hD, hr => ⟨_, e, h, D, rfl, hD, hr⟩
  | .exit _, e, D, h, k, r, hD, hr => ⟨_, e, h, D, rfl, hD, hr⟩
  | .region ins, e, D, h, k, r, hD, hr => by
    simp only [evK] at hr
    obtain ⟨e1, h1, D1, g1, g2, g3⟩ := runK_get hc hD hr
    exact ⟨_, e1, h1, D1, by simp only [evC, g1], g2, g3⟩
  | .regionD ins conf, e, D, h, k, r, hD, hr => by
    simp only [evK] at hr
    obtain ⟨e1, h1, D1, g1, g2, g3⟩ := runK_get hc hD hr
    cases hb : okConf e1 h h1.log conf with
    | false => simp [hb, Br.get] at g3
    | true =>
      simp only [hb, cond_true] at g3
      exact ⟨_, e1, _, D1, by simp only [evC, g1, hb, cond_true], g2, g3⟩
  | .seq a b, e, D, h, k, r, hD, hr => by
    simp only [evK] at hr
    obtain ⟨x, e1, h1, D1, g1, g2, g3⟩ := evK_get hc hD hr
    cases x with
    | normal =>
      simp only at g3
      obtain ⟨x, e2, h2, D2, g4, g5, g6⟩ := evK_get hc g2 g3
      exact ⟨x, e2, h2, D2, by simp only [evC, g1]; exact g4, g5, g6⟩
    | exit id => exact ⟨_, e1, h1, D1, by simp only [evC, g1], g2, g3⟩
    | ret => exact ⟨_, e1, h1, D1, by simp only [evC, g1], g2, g3⟩
  | .cond (.t t) a b, e, D, h, k, r, hD, hr => by
    simp only [evK] at hr
    rcases boolK_get hD hr with ⟨x, D', h1, h2, h3⟩ | ⟨h1, _⟩
    · cases x with
      | true =>
        simp only [cond_true] at h2
        obtain ⟨x, e2, h2, D2, g4, g5, g6⟩ := evK_get hc h1 h2
        refine ⟨x, e2, h2, D2, ?_, g5, g6⟩
        rcases h3 with h3 | h3 <;> simp only [evC, Opd.get, h3, cond_true] <;> exact g4
      | false =>
        simp only [cond_false] at h2
        obtain ⟨x, e2, h2, D2, g4, g5, g6⟩ := evK_get hc h1 h2
        refine ⟨x, e2, h2, D2, ?_, g5, g6⟩
        rcases h3 with h3 | h3 <;> simp only [evC, Opd.get, h3, cond_false] <;> exact g4
    · simp [Br.get] at h1
  | .cond (.c v) a b, e, D, h, k, r, hD, hr => by
    simp only [evK] at hr
    split at hr
    · rename_i x
      cases x with
      | true =>
        simp only [cond_true] at hr
        obtain ⟨x, e2, h2, D2, g4, g5, g6⟩ := evK_get hc hD hr
        exact ⟨x, e2, h2, D2, by simp only [evC, Opd.get, cond_true]; exact g4, g5, g6⟩
      | false =>
        simp only [cond_false] at hr
        obtain ⟨x, e2, h2, D2, g4, g5, g6⟩ := evK_get hc hD hr
        exact ⟨x, e2, h2, D2, by simp only [evC, Opd.get, cond_false]; exact g4, g5, g6⟩
    · simp [Br.get] at hr
  | .block id b, e, D, h, k, r, hD, hr => by
    simp only [evK] at hr
    obtain ⟨x, e1, h1, D1, g1, g2, g3⟩ := evK_get hc hD hr
    cases x with
    | normal => exact ⟨_, e1, h1, D1, by simp only [evC, g1], g2, g3⟩
    | exit id' =>
      simp only at g3
      cases hb : id'.beq id with
      | true => simp only [hb, cond_true] at g3; exact ⟨_, e1, h1, D1, by simp only [evC, g1, hb, cond_true], g2, g3⟩
      | false => simp only [hb, cond_false] at g3; exact ⟨_, e1, h1, D1, by simp only [evC, g1, hb, cond_false], g2, g3⟩
    | ret => exact ⟨_, e1, h1, D1, by simp only [evC, g1], g2, g3⟩
  | .loop b, e, D, h, k, r, hD, hr => by
    simp only [evK] at hr
    have key : ∀ (n : Nat) {e D h}, Dok e D → (loopK (fun e D h k => evK callK fuel b e D h k) n e D h k).get = some r →
        ∃ x e' h' D', loopN (fun e h => evC callF fuel b e h) n e h = some (x, e', h') ∧ Dok e' D' ∧ (k x e' D' h').get = some r := by
      intro n
      induction n with
      | zero => intro e D h _ hl; simp [loopK, Br.get] at hl
      | succ n ih =>
        intro e D h hD hl
        simp only [loopK] at hl
        obtain ⟨x, e1, h1, D1, g1, g2, g3⟩ := evK_get hc hD hl
        cases x with
        | normal =>
          simp only at g3
          obtain ⟨x, e2, h2, D2, g4, g5, g6⟩ := ih g2 g3
          exact ⟨x, e2, h2, D2, by simp only [loopN, g1]; exact g4, g5, g6⟩
        | exit id => exact ⟨_, e1, h1, D1, by simp only [loopN, g1], g2, g3⟩
        | ret => exact ⟨_, e1, h1, D1, by simp only [loopN, g1], g2, g3⟩
    obtain ⟨x, e', h', D', g1, g2, g3⟩ := key fuel hD hr
    exact ⟨x, e', h', D', by simp only [evC]; exact g1, g2, g3⟩

theorem bodyK_get {callK : CallK α} {callF : CallF} (hc : CK callK callF) {fuel : Nat} {F : AFunc} {args : List AV} {h : Heap} {k : AV → Heap → Br α} {r : α} (hr : (bodyK callK fuel F args h k).get = some r) :
    ∃ v h', evBody callF fuel F args h = some (v, h') ∧ (k v h').get = some r := by
  unfold bodyK at hr
  obtain ⟨x, e', h', D', g1, g2, g3⟩ := evK_get hc (Dok.nil _) hr
  cases x with
  | exit id => simp [Br.get] at g3
  | normal =>
    simp only at g3
    split at g3
    · rename_i vs hvs; exact ⟨_, h', by simp only [evBody, g1, hvs], g3⟩
    · simp [Br.get] at g3
  | ret =>
    simp only at g3
    split at g3
    · rename_i vs hvs; exact ⟨_, h', by simp only [evBody, g1, hvs], g3⟩
    · simp [Br.get] at g3

theorem evTK_get {T : Nat → Option AFunc} {callK : CallK α} {callF : CallF} (hc : CK callK callF) {n f : Nat} {args : List AV} {h : Heap} {k : AV → Heap → Br α} {r : α}
    (hr : (evTK T callK n f args h k).get = some r) : ∃ v h', evT T callF n f args h = some (v, h') ∧ (k v h').get = some r := by
  unfold evTK at hr
  unfold evT
  split at hr
  · simp [Br.get] at hr
  · rename_i F hF
    split at hr
    · rename_i hm; simp only [hF, hm]; exact bodyK_get hc hr
    · rename_i hm
      simp only [hF, hm]
      obtain ⟨v, h', g1, g2⟩ := bodyK_get hc hr
      cases hb : v.free with
      | false => simp [hb, Br.get] at g2
      | true => simp only [hb, cond_true] at g2; exact ⟨v, h, by simp only [g1, hb, cond_true], g2⟩
    · rename_i hm
      simp only [hF, hm]
      cases ha : args.all AV.free with
      | false => simp [ha, Br.get] at hr
      | true =>
        simp only [ha, cond_true] at hr ⊢
        obtain ⟨v, h', g1, g2⟩ := bodyK_get hc hr
        cases hb : v.free with
        | false => simp [hb, Br.get] at g2
        | true => simp only [hb, cond_true] at g2; exact ⟨v, h, by simp only [g1, hb, cond_true], g2⟩
    · rename_i hm
      simp only [hF, hm]
      obtain ⟨v, h', g1, g2⟩ := bodyK_get hc hr
      split at g2
      · rename_i v2 h2 hn; exact ⟨v2, h2, by simp only [g1, hn], g2⟩
      · simp [Br.get] at g2
    · simp [Br.get] at hr

theorem evFK_get {T : Tab} : ∀ n, CK (α := α) (evFK T n) (evF T n)
  | 0 => fun f vs h k r hr => by simp [evFK, Br.get] at hr
  | n + 1 => fun f vs h k r hr => by
    simp only [evFK] at hr
    simp only [evF]
    split at hr
    · rename_i v hv; exact ⟨v, h, by simp only [hv], hr⟩
    · rename_i hv
      split at hr
      · simp [Br.get] at hr
      · rename_i hx
        simp only [hv, hx]
        exact evTK_get (evFK_get n) hr

/-- the tree of a call -/
def tree (T : Tab) (n f : Nat) (args : List AV) (h : Heap) : Br (AV × Heap) := evFK T n f args h fun v h' => .ret (v, h')

theorem tree_get {T : Tab} {n f : Nat} {args : List AV} {h h' : Heap} {v : AV} (hr : (tree T n f args h).get = some (v, h')) : evF T n f args h = some (v, h') := by
  obtain ⟨v1, h1, g1, g2⟩ := evFK_get n _ _ _ _ _ hr
  simp only [Br.get, Option.some.injEq, Prod.mk.injEq] at g2
  obtain ⟨rfl, rfl⟩ := g2
  exact g1

/-- a tree for what comes back alone -/
def treeV (T : Tab) (n f : Nat) (args : List AV) (h : Heap) : Br AV := evFK T n f args h fun v _ => .ret v

theorem treeV_get {T : Tab} {n f : Nat} {args : List AV} {h : Heap} {v : AV} (hr : (treeV T n f args h).get = some v) : ∃ h', evF T n f args h = some (v, h') := by
  obtain ⟨v1, h1, g1, g2⟩ := evFK_get n _ _ _ _ _ hr
  simp only [Br.get, Option.some.injEq] at g2
  subst g2
  exact ⟨_, g1⟩

end
end Go.Ev

/- A function whose body ranges over an iterator that splits: its own evaluator, and that this one is sound. -/

namespace Go.Ev
set_option linter.unusedSectionVars false
set_option linter.unusedVariables false
set_option linter.unusedSimpArgs false
variable [Home]
open Go

def AEx.isN : AEx → Bool
  | .normal => true
  | _ => false

def Heap.skip (h : Heap) : Heap := ⟨h.next + 1, h.ro, h.an, h.aro, h.tr, h.log⟩

/-- the function: its parts -/
structure Rgf where
  p1 : ACode
  p2 : ACode
  p3 : ACode
  g : Nat
  p : Nat
  asg : ACode
  body : ACode
  post : ACode
  res : List (Nat × Option (Nat × Bool))

/-- a statement that calls yield -/
structure Yr where
  pre : List AIns
  yt : Nat
  xt : Nat
  d : Nat
  post : List AIns

/-- the iterator: its parts -/
structure Itr where
  f : Nat
  r0 : ACode
  c0 : Nat
  r5 : ACode
  r6 : ACode
  c6 : Nat
  r7 : ACode
  y8 : Yr
  c8 : Nat
  r9 : ACode
  z : Yr

def evRound (callF : CallF) (n : Nat) (R : Rgf) (e1 : Env) (x : AV) (h : Heap) : Option (AEx × Heap) :=
  match evC callF n R.asg (putE e1 (some R.p) x) h with
  | some (.normal, e2, h2) => match evC callF n R.body e2 h2 with
    | some (ex, _, h3) => some (ex, h3)
    | none => none
  | _ => none

def evY (callF : CallF) (n : Nat) (R : Rgf) (e1 : Env) (b : Nat) (Y : Yr) (e : Env) (h : Heap) : Option (AEx × Env × Heap) :=
  match runIns callF Y.pre e h with
  | some (e2, h2) => match lk e2 Y.yt, lk e2 Y.xt with
    | some (.yv b'), some x => bif b'.beq b then (match evRound callF n R e1 x h2 with
      | some (ex, h3) => (match runIns callF Y.post (putE e2 (some Y.d) (.bool ex.isN)) h3 with
        | some (e4, h4) => some (ex, e4, h4)
        | none => none)
      | none => none) else none
    | _, _ => none
  | none => none

def evIt (callF : CallF) (n : Nat) (R : Rgf) (I : Itr) (e1 : Env) (b : Nat) : Nat → Env → Heap → Option (AEx × Heap)
  | 0, _, _ => none
  | m + 1, e, h => match evC callF n I.r5 e h with
    | some (.normal, ea, ha) => (match evC callF n I.r6 ea ha with
      | some (.normal, eb, hb) => (match lk eb I.c6 with
        | some (.bool true) => (match evY callF n R e1 b I.z eb hb with
          | some (ex, _, hc) => some (ex, hc)
          | none => none)
        | some (.bool false) => (match evC callF n I.r7 eb hb with
          | some (.normal, ec, hc) => (match evY callF n R e1 b I.y8 ec hc with
            | some (ex, ed, hd) => (match lk ed I.c8 with
              | some (.bool true) => bif ex.isN then none else some (ex, hd)
              | some (.bool false) => bif ex.isN then (match evC callF n I.r9 ed hd with
                | some (.normal, ee, he) => evIt callF n R I e1 b m ee he
                | _ => none) else none
              | _ => none)
            | none => none)
          | _ => none)
        | _ => none)
      | _ => none)
    | _ => none

def resV (e : Env) (h : Heap) (rs : List (Nat × Option (Nat × Bool))) : Option (AV × Heap) :=
  match resOf e h rs with
  | some vs => some (single vs, h)
  | none => none

def evAft (callF : CallF) (n : Nat) (R : Rgf) (e1 : Env) : AEx → Heap → Option (AV × Heap)
  | .normal, h3 => (match evC callF n R.post e1 h3 with
    | some (.normal, e4, h4) => resV e4 h4 R.res
    | some (.ret, e4, h4) => resV e4 h4 R.res
    | _ => none)
  | .ret, h3 => resV e1 h3 R.res
  | _, _ => none

def evRng (callF : CallF) (n : Nat) (R : Rgf) (I : Itr) (e1 : Env) (h1 : Heap) : Option (AV × Heap) :=
  match lk e1 R.g with
  | some (.fn f [] cap) => bif f.beq I.f then (match evC callF n I.r0 (params 0 (.yv h1.nb :: cap)) h1.skip with
    | some (.normal, e2, h2) => (match lk e2 I.c0 with
      | some (.bool false) => (match evIt callF n R I e1 h1.nb n e2 h2 with
        | some (ex, h3) => evAft callF n R e1 ex h3
        | none => none)
      | _ => none)
    | _ => none) else none
  | _ => none

def evEach (R : Rgf) (I : Itr) (callF : CallF) (n : Nat) (args : List AV) (h : Heap) : Option (AV × Heap) :=
  match evC callF n R.p1 (params 0 args) h with
  | some (.normal, ea, ha) => (match evC callF n R.p2 ea ha with
    | some (.normal, eb, hb) => (match evC callF n R.p3 eb hb with
      | some (.normal, e1, h1) => evRng callF n R I e1 h1
      | _ => none)
    | _ => none)
  | _ => none

section
variable {P : Program} {callF : CallF} {md : Nat → Nat}

/-! ### operations in a round's frame -/
theorem op_in {rd : Option Nat} {n : Nat} {o : Oper} {a : Act} {w : World} {K : Act → World → Prop} {Q : Exit → Act → World → Prop} (hd : ∀ c, o.op ≠ .defer c) (h : o.wp P a w K Q) : o.wpIn (FR rd) n P a w K Q := by
  refine ⟨fun _ _ => trivial, ?_⟩
  rw [Oper.semAt_eq _ _ _ hd]
  unfold Oper.wp at h
  generalize (execOp a.eval o).run P w = r at h ⊢
  unfold Oper.upon at h
  split at h
  · exact h
  · exact h
  · exact h
  · refine ⟨fun h => by simp [Fence.wide] at h, (callsIn_wide (n := n - 1)).2 (h.mono ?_)⟩
    intro e w1 h1
    cases e <;> exact h1
  · refine ⟨fun h => by simp [Fence.wide] at h, fun c cs _ => ?_⟩
    obtain ⟨v, w1, r, st⟩ := h c cs
    exact ⟨v, w1, r, stepsIn_wide.2 st⟩
  · exact h
  · exact h.elim

theorem list_in (hcall : CallOk P callF) {rd : Option Nat} {n : Nat} {ds : List Deferred} {nt : Nat} {ops : Array Oper} {rest : List Oper} {Q : Exit → Act → World → Prop} :
    ∀ {l : List Oper} {is : List AIns} {e e' : Env} {a : Act} {j : JM} {H H' : Heap} {w : World}, cInss P nt ops l = some is → WR j H w → St ds j nt e a →
    runIns callF is e H = some (e', H') → (∀ j' a' w', Trans j H w j' H' w' → St ds j' nt e' a' → wpListIn (FR rd) n P ops Q rest a' w') → wpListIn (FR rd) n P ops Q (l ++ rest) a w
  | [], is, e, e', a, j, H, H', w, h, hw, hs, hr, hQ => by
    simp only [cInss, Option.some.injEq] at h
    subst h
    simp only [runIns, Option.some.injEq, Prod.mk.injEq] at hr
    obtain ⟨rfl, rfl⟩ := hr
    exact hQ j a w (Trans.refl hw) hs
  | o :: l, is, e, e', a, j, H, H', w, h, hw, hs, hr, hQ => by
    simp only [cInss] at h
    split at h
    · rename_i i0 h1
      split at h
      · rename_i is' h2
        obtain rfl := Option.some.inj h
        simp only [runIns] at hr
        split at hr
        · rename_i e1 H1 hst
          have key := ins_sound (Q := Q) (K := wpListIn (FR rd) n P ops Q (l ++ rest)) hcall h1 hw hs hst (fun j' a' w' htr hs' =>
            list_in hcall h2 htr.wr hs' hr (fun j2 a2 w2 htr2 hs2 => hQ j2 a2 w2 (htr.trans htr2) hs2))
          simp only [List.cons_append, wpListIn]
          split
          · rename_i hw'; rw [if_pos hw'] at key; exact op_in (op_nodefer h1) key
          · rename_i hw'; rw [if_neg hw'] at key; exact ⟨fun _ _ => trivial, key⟩
        · simp at hr
      · simp at h
    · simp at h

/-! ### memory with a loop's record -/
theorem cell_loop {w : World} {l : Nat} {o : Obj} (hl : w.heap[l]? = some o) (ho : ∀ a b c, o ≠ .cells a b c) (off : Nat) : w.cell? ⟨l, off, none⟩ = none := by
  simp only [World.cell?, hl]
  cases o <;> simp at ho ⊢

theorem WR.putObj {j : JM} {H : Heap} {w : World} (h : WR j H w) {l : Nat} {o o' : Obj} (hl : w.heap[l]? = some o) (ho : ∀ a b c, o ≠ .cells a b c) (hg : Home.G ≤ l) : WR j H (w.putObj l o') := by
  have hc : ∀ (k off : Nat) (c : Value), w.cell? ⟨k, off, none⟩ = some c → (w.putObj l o').heap[k]? = w.heap[k]? := by
    intro k off c hk
    refine World.putObj_heap_other ?_
    rintro rfl
    rw [cell_loop hl ho] at hk
    simp at hk
  have hs : (w.putObj l o').heap.size = w.heap.size := World.putObj_size
  refine ⟨h.dom, h.hdom, fun b cs hb => ?_, fun b cs loc hr hb hj i hi => ?_, h.apart, by rw [hs]; exact h.gsz, Home.keep w _ h.inv (by rw [hs]; exact Nat.le_refl _) (fun k hk => World.putObj_heap_other (by omega)), h.lo⟩
  · obtain ⟨loc, h1, h2, h3, h4⟩ := h.cell b cs hb
    refine ⟨loc, h1, by rw [hs]; exact h2, h3, fun i x hx => ?_⟩
    obtain ⟨c, h5, h6⟩ := h4 i x hx
    exact ⟨c, by rw [cell?_of_heap (hc _ _ _ h5)]; exact h5, h6⟩
  · obtain ⟨⟨c, h1⟩, h2⟩ := h.own b cs loc hr hb hj i hi
    exact ⟨⟨c, by rw [cell?_of_heap (hc _ _ _ h1)]; exact h1⟩, by rw [frozen?_of_heap (hc _ _ _ h1)]; exact h2⟩

/-- within a range over a function: the record at l, the block for deferred calls ahead of it -/
structure LI (j0 : JM) (H0 : Heap) (w0 : World) (b : Nat) (j : JM) (H : Heap) (w : World) : Prop where
  tr : Trans j0 H0 w0 j H w
  sz : w0.heap.size + 1 < w.heap.size
  nl : ¬ Own j H (w0.heap.size + 1)
  nd : ¬ Own j H w0.heap.size
  jd : j b = some ⟨w0.heap.size + 1, 0, 0⟩
  dd : w.heap[w0.heap.size]? = some (.deferred (some []))

theorem LI.step {j0 : JM} {H0 : Heap} {w0 : World} {b : Nat} {j j' : JM} {H H' : Heap} {w w' : World} (h : LI j0 H0 w0 b j H w) (t : Trans j H w j' H' w') :
    LI j0 H0 w0 b j' H' w' ∧ w'.heap[w0.heap.size + 1]? = w.heap[w0.heap.size + 1]? :=
  have hs := h.sz
  ⟨⟨h.tr.trans t, Nat.lt_of_lt_of_le hs t.size, fun ho => h.nl (t.grow _ hs ho), fun ho => h.nd (t.grow _ (by omega) ho), t.ext _ _ h.jd, by rw [t.keep _ (by omega) h.nd]; exact h.dd⟩, t.keep _ hs h.nl⟩

theorem LI.put {j0 : JM} {H0 : Heap} {w0 : World} {b : Nat} {j : JM} {H : Heap} {w : World} (h0 : Home.G ≤ w0.heap.size) (h : LI j0 H0 w0 b j H w) {r : Loop} (hr : w.heap[w0.heap.size + 1]? = some (.loop r)) (r' : Loop) :
    LI j0 H0 w0 b j H (w.putObj (w0.heap.size + 1) (.loop r')) ∧ (w.putObj (w0.heap.size + 1) (.loop r')).heap[w0.heap.size + 1]? = some (.loop r') := by
  have hs : (w.putObj (w0.heap.size + 1) (.loop r')).heap.size = w.heap.size := World.putObj_size
  refine ⟨⟨⟨h.tr.ext, h.tr.wr.putObj hr (fun _ _ _ e => by cases e) (by omega), h.tr.ro, h.tr.next, h.tr.os, h.tr.tape, h.tr.output, by rw [hs]; exact h.tr.size, fun k hk hn => ?_, h.tr.grow, h.tr.old⟩, by rw [hs]; exact h.sz, h.nl, h.nd, h.jd, ?_⟩, World.putObj_heap_same h.sz⟩
  · rw [World.putObj_heap_other (by omega)]; exact h.tr.keep k hk hn
  · rw [World.putObj_heap_other (by omega)]; exact h.dd

theorem LI.shut {j0 : JM} {H0 : Heap} {w0 : World} {b : Nat} {j : JM} {H : Heap} {w : World} (h0 : Home.G ≤ w0.heap.size) (h : LI j0 H0 w0 b j H w) :
    Trans j0 H0 w0 j H (w.putObj w0.heap.size (.deferred none)) := by
  have hs : (w.putObj w0.heap.size (.deferred none)).heap.size = w.heap.size := World.putObj_size
  refine ⟨h.tr.ext, h.tr.wr.putObj h.dd (fun _ _ _ e => by cases e) h0, h.tr.ro, h.tr.next, h.tr.os, h.tr.tape, h.tr.output, by rw [hs]; exact h.tr.size, fun k hk hn => ?_, h.tr.grow, h.tr.old⟩
  rw [World.putObj_heap_other (by omega)]; exact h.tr.keep k hk hn

/-- the start: two blocks are laid -/
theorem LI.start {j : JM} {H : Heap} {w : World} (h : WR j H w) (r : Loop) :
    LI j H w H.nb (upd j H.nb ⟨w.heap.size + 1, 0, 0⟩) H.skip ((w.alloc (.deferred (some []))).alloc (.loop r)) ∧
      ((w.alloc (.deferred (some []))).alloc (.loop r)).heap[w.heap.size + 1]? = some (.loop r) := by
  have hext := upd_ext h ⟨w.heap.size + 1, 0, 0⟩
  have hheap : ((w.alloc (.deferred (some []))).alloc (.loop r)).heap = (w.heap.push (.deferred (some []))).push (.loop r) := rfl
  have hsz : ((w.alloc (.deferred (some []))).alloc (.loop r)).heap.size = w.heap.size + 2 := by rw [hheap]; simp
  have hold : ∀ k, k < w.heap.size → ((w.alloc (.deferred (some []))).alloc (.loop r)).heap[k]? = w.heap[k]? := by
    intro k hk
    rw [hheap, Array.getElem?_push, Array.getElem?_push]
    simp only [Array.size_push]
    rw [if_neg (by omega), if_neg (by omega)]
  have hd : ((w.alloc (.deferred (some []))).alloc (.loop r)).heap[w.heap.size]? = some (.deferred (some [])) := by
    rw [hheap, Array.getElem?_push, Array.getElem?_push]
    simp
  have hl : ((w.alloc (.deferred (some []))).alloc (.loop r)).heap[w.heap.size + 1]? = some (.loop r) := by
    rw [hheap, Array.getElem?_push]
    simp
  have hget : ∀ b, H.skip.get b = H.get b := fun _ => rfl
  have hjo : ∀ b cs, H.get b = some cs → upd j H.nb ⟨w.heap.size + 1, 0, 0⟩ b = j b := by
    intro b cs hb
    have := h.hdom b cs hb
    simp only [upd]
    rw [if_neg (ne_nb this)]
  have hlt : ∀ b cs loc, H.get b = some cs → j b = some loc → loc.blk < w.heap.size := by
    intro b cs loc hb hj
    obtain ⟨loc', h1, h2, _⟩ := h.cell b cs hb
    rw [hj] at h1
    obtain rfl := Option.some.inj h1
    exact h2
  have hown : ∀ k, Own (upd j H.nb ⟨w.heap.size + 1, 0, 0⟩) H.skip k → Own j H k := by
    rintro k ⟨b, cs, loc, hr, hb, hj, e⟩
    rw [hget] at hb
    rw [hjo b cs hb] at hj
    exact ⟨b, cs, loc, hr, hb, hj, e⟩
  have hno : ∀ k, w.heap.size ≤ k → ¬ Own (upd j H.nb ⟨w.heap.size + 1, 0, 0⟩) H.skip k := by
    intro k hk ho
    obtain ⟨b, cs, loc, hr, hb, hj, e⟩ := hown k ho
    have := hlt b cs loc hb hj
    omega
  refine ⟨⟨⟨hext, ⟨?_, ?_, ?_, ?_, ?_, by have := h.gsz; omega, Home.keep w _ h.inv (by omega) (fun k hk => hold k (by have := h.gsz; omega)), ?_⟩, fun _ => rfl, fun x hx => has_push [] hx, rfl, rfl, rfl, by omega, fun k hk _ => hold k hk, fun k _ ho => hown k ho, fun x hx hn => by simp only [upd]; rw [if_neg (ne_nb hx)]; exact hn⟩, by omega, hno _ (by omega), hno _ (Nat.le_refl _), by simp [upd], hd⟩, hl⟩
  · intro b loc hb
    simp only [upd] at hb
    split at hb
    · subst b; exact has_push_nb H []
    · exact has_push [] (h.dom b loc hb)
  · intro b cs hb; exact has_push [] (h.hdom b cs hb)
  · intro b cs hb
    obtain ⟨loc, h1, h2, h3, h4⟩ := h.cell b cs hb
    refine ⟨loc, hext _ _ h1, by omega, h3, fun i x hx => ?_⟩
    obtain ⟨c, h5, h6⟩ := h4 i x hx
    exact ⟨c, by rw [cell?_of_heap (hold _ h2)]; exact h5, h6.mono hext⟩
  · intro b cs loc hr hb hj i hi
    rw [hjo b cs hb] at hj
    have hk := hlt b cs loc hb hj
    obtain ⟨h1, h2⟩ := h.own b cs loc hr hb hj i hi
    exact ⟨by rw [cell?_of_heap (hold _ hk)]; exact h1, by rw [frozen?_of_heap (hold _ hk)]; exact h2⟩
  · intro b b' cs cs' loc loc' hr hne hb hb' hj hj'
    rw [hjo b cs hb] at hj
    rw [hjo b' cs' hb'] at hj'
    exact h.apart b b' cs cs' loc loc' hr hne hb hb' hj hj'
  · intro b cs loc hr hb hj
    rw [hjo b cs hb] at hj
    exact h.lo b cs loc hr hb hj

/-! ### a round -/
def stOf : AEx → LoopState
  | .normal => .ready
  | _ => .done
def peOf : AEx → Option Code
  | .normal => none
  | .ret => some .ret
  | .exit id => some (.exit id)

/-- the loop's record -/
def recOf (fn : FuncId) (tmps : Array Value) (p : Nat) (asgC bodyC : Code) (D : Nat) (st : LoopState) (pe : Option Code) : Loop :=
  { state := st, pending := pe, fn, tmps, params := #[p], assign := asgC, body := bodyC, defers := D }

theorem roundPost_of {l : Nat} {R : Ending → World → Prop} {ex : AEx} {x : Exit} {a : Act} {w : World} (h : exRel ex x) (hr : ∃ v w', (Instr.endRound l (peOf ex)).run P w = .ok v w' ∧ R (.returned v) w') : roundPost P l R x a w := by
  cases ex <;> cases x <;> simp only [exRel] at h
  · exact hr
  · subst h; exact hr
  · exact hr

section
variable {j0 : JM} {H0 : Heap} {w0 : World} {b : Nat} {fuel nt : Nat} {R : Rgf} {asgC bodyC : Code} {fnE : FuncId} {tmpsE : Array Value} {e1 : Env} {j1 : JM} {m : Nat}

theorem round_sound (hcall : CallOk P callF) (hmd : CallCls callF md) (hmo : CallMono callF) (hmix : P.follows .mixedOrders = true) (h0 : Home.G ≤ w0.heap.size)
    (ha : cC P md nt asgC = some R.asg) (hb : cC P md nt bodyC = some R.body) (hp : R.p < nt) (he : ER j1 e1 tmpsE) (hnt : nt ≤ tmpsE.size)
    {j : JM} {H : Heap} {w : World} {x : AV} {xv : Value} {ex : AEx} {H3 : Heap} (hx : Ext j1 j) (li : LI j0 H0 w0 b j H w)
    (hr : w.heap[w0.heap.size + 1]? = some (.loop (recOf fnE tmpsE R.p asgC bodyC w0.heap.size .ready none))) (hv : VR j x xv) (hev : evRound callF fuel R e1 x H = some (ex, H3)) :
    ∃ tmps, (Instr.yield (w0.heap.size + 1) #[xv]).run P w = .ok (.round (w0.heap.size + 1) fnE tmps asgC bodyC) w ∧ RoundIn (FR none) m P (w0.heap.size + 1) fnE tmps asgC bodyC w (fun e w' =>
      ∃ j', Ext j j' ∧ LI j0 H0 w0 b j' H3 w' ∧ w'.heap[w0.heap.size + 1]? = some (.loop (recOf fnE tmpsE R.p asgC bodyC w0.heap.size (stOf ex) (peOf ex))) ∧ e = .returned (.bool ex.isN)) := by
  unfold evRound at hev
  split at hev
  · rename_i e2 h2 hasg
    split at hev
    · rename_i ex' e3 h3 hbody
      simp only [Option.some.injEq, Prod.mk.injEq] at hev
      obtain ⟨rfl, rfl⟩ := hev
      refine ⟨tmpsE.setIfInBounds R.p xv, ?_, ?_⟩
      · rw [run_yield hr rfl]
        simp [recOf]
      · have hst : St [] j nt (putE e1 (some R.p) x) { tmps := tmpsE.setIfInBounds R.p xv, defers := [] } := by
          have := St.put (ds := []) (a := { tmps := tmpsE, defers := [] }) (dst := some R.p) (c := xv) (v := x) (nt := nt) ⟨he.mono hx, hnt, rfl⟩ (by simpa using hp) hv
          exact this
        refine roundIn_of_wpIn (F := FR none) trivial ?_
        refine wpIn_mono (F := FR (some (w0.heap.size + 1))) (code_sound hcall hmd hmo hmix ha li.tr.wr hst hasg) ?_
        rintro x1 a1 w1 ⟨hex, j2, htr, hs1⟩
        cases x1 <;> simp only [exRel] at hex
        obtain ⟨li1, hr1⟩ := li.step htr
        rw [hr] at hr1
        refine ⟨_, run_beginRound hr1 rfl, ?_⟩
        obtain ⟨li2, hr2⟩ := li1.put h0 hr1 { recOf fnE tmpsE R.p asgC bodyC w0.heap.size .ready none with state := .busy }
        refine wpIn_mono (F := FR (some (w0.heap.size + 1))) (code_sound hcall hmd hmo hmix hb li2.tr.wr hs1 hbody) ?_
        rintro x2 a2 w2 ⟨hex2, j3, htr2, hs2⟩
        obtain ⟨li3, hr3⟩ := li2.step htr2
        rw [hr2] at hr3
        refine roundPost_of hex2 ⟨_, _, run_endRound _ hr3, j3, htr.ext.trans htr2.ext, ?_⟩
        obtain ⟨li4, hr4⟩ := li3.put h0 hr3 (recOf fnE tmpsE R.p asgC bodyC w0.heap.size (stOf ex') (peOf ex'))
        have e1 : ({ recOf fnE tmpsE R.p asgC bodyC w0.heap.size .ready none with state := .busy } : Loop) = recOf fnE tmpsE R.p asgC bodyC w0.heap.size .busy none := rfl
        have : ({ ({ recOf fnE tmpsE R.p asgC bodyC w0.heap.size .ready none with state := .busy } : Loop) with state := (if (peOf ex').isNone then .ready else .done), pending := peOf ex' } : Loop) = recOf fnE tmpsE R.p asgC bodyC w0.heap.size (stOf ex') (peOf ex') := by
          cases ex' <;> rfl
        rw [this]
        refine ⟨li4, hr4, ?_⟩
        cases ex' <;> rfl
    · simp at hev
  · simp at hev

/-- an operation that calls yield -/
def isYield (o : Oper) (Y : Yr) : Prop := o.guard = none ∧ o.dst = some Y.d ∧ ∃ at', o.op = .call { callee := .value (.tmp Y.yt), args := #[.tmp Y.xt], argTypes := at' }

theorem yield_sound (hcall : CallOk P callF) (hmd : CallCls callF md) (hmo : CallMono callF) (hmix : P.follows .mixedOrders = true) (h0 : Home.G ≤ w0.heap.size)
    (ha : cC P md nt asgC = some R.asg) (hb : cC P md nt bodyC = some R.body) (hp : R.p < nt) (he : ER j1 e1 tmpsE) (hnt : nt ≤ tmpsE.size)
    {id nI : Nat} {Y : Yr} {pre post : List Oper} {o : Oper} {ops : Array Oper} (hops : ops.toList = pre ++ o :: post) (hpre : cInss P nI ops pre = some Y.pre) (hpost : cInss P nI ops post = some Y.post) (ho : isYield o Y) (hd : Y.d < nI)
    {j : JM} {H : Heap} {w : World} {e e4 : Env} {ex : AEx} {H4 : Heap} {a : Act} (hx : Ext j1 j) (li : LI j0 H0 w0 b j H w)
    (hr : w.heap[w0.heap.size + 1]? = some (.loop (recOf fnE tmpsE R.p asgC bodyC w0.heap.size .ready none))) (hs : St [] j nI e a) (hev : evY callF fuel R e1 b Y e H = some (ex, e4, H4)) :
    (Code.region id ops false).wpIn (FR none) m P (fun x a' w' => x = .normal ∧ ∃ j', Ext j j' ∧ LI j0 H0 w0 b j' H4 w' ∧ St [] j' nI e4 a' ∧
      w'.heap[w0.heap.size + 1]? = some (.loop (recOf fnE tmpsE R.p asgC bodyC w0.heap.size (stOf ex) (peOf ex)))) a w := by
  unfold evY at hev
  split at hev <;> (try simp at hev; done)
  rename_i e2 h2 hrun
  split at hev <;> (try simp at hev; done)
  rename_i b' x hy hxv
  have hbb := (bif_some hev).1
  rw [hbb, cond_true] at hev
  obtain rfl := Nat.eq_of_beq_eq_true hbb
  clear hbb
  split at hev <;> (try simp at hev; done)
  rename_i ex' h3 hround
  split at hev <;> (try simp at hev; done)
  rename_i e4' h4 hpostr
  simp only [Option.some.injEq, Prod.mk.injEq] at hev
  obtain ⟨rfl, rfl, rfl⟩ := hev
  refine wpIn_region_list ?_
  rw [hops]
  refine list_in hcall hpre li.tr.wr hs hrun ?_
  intro j2 a2 w2 htr hs2
  obtain ⟨li2, hr2⟩ := li.step htr
  rw [hr] at hr2
  have vy := hs2.er _ _ hy
  have vx := hs2.er _ _ hxv
  obtain ⟨loc, hjl, hyv⟩ := vy
  rw [li2.jd] at hjl
  obtain rfl := Option.some.inj hjl
  obtain ⟨tmps, hyr, hround'⟩ := round_sound (m := m - 1) hcall hmd hmo hmix h0 ha hb hp he hnt (hx.trans htr.ext) li2 hr2 vx hround
  obtain ⟨hg, hdst, at', hop⟩ := ho
  refine wpListIn_plain hg (fun K hK => ?_)
  refine ⟨fun _ _ => trivial, ?_⟩
  rw [Oper.semAt_eq _ _ _ (by rw [hop]; intro c hc; cases hc)]
  have hexec : (execOp a2.eval o).run P w2 = .ok (.round (w0.heap.size + 1) fnE tmps asgC bodyC) w2 := by
    simp only [execOp, hop, resolve, Act.eval, hyv, Deferred.ofValue, invoke, Sem.run_bind, Sem.run_pure, Result.andThen_ok]
    simpa [Act.eval] using hyr
  rw [hexec]
  refine ⟨fun h => by simp [Fence.wide] at h, hround'.mono ?_⟩
  rintro en w3 ⟨j3, hex3, li3, hr3, rfl⟩
  refine hK _ _ ?_
  have hs3 : St [] j3 nI (putE e2 (some Y.d) (.bool ex'.isN)) (a2.put o.dst (.bool ex'.isN)) := by
    rw [hdst]
    exact (hs2.mono hex3).put (dst := some Y.d) (by simpa using hd) rfl
  have fin := list_in (rd := none) (n := m) (rest := []) (Q := fun x a' w' => x = .normal ∧ ∃ j', Ext j j' ∧ LI j0 H0 w0 b' j' h4 w' ∧ St [] j' nI e4' a' ∧
      w'.heap[w0.heap.size + 1]? = some (.loop (recOf fnE tmpsE R.p asgC bodyC w0.heap.size (stOf ex') (peOf ex')))) hcall hpost li3.tr.wr hs3 hpostr (by
    intro j4 a4 w4 htr4 hs4
    obtain ⟨li4, hr4⟩ := li3.step htr4
    rw [hr3] at hr4
    exact ⟨rfl, j4, (htr.ext.trans hex3).trans htr4.ext, li4, hs4, hr4⟩)
  simpa using fin
/-! ### the iterator -/
def itCode (R0 : Code) (c0 : Tmp) (t0 : Code) (i2 i3 : Nat) (R5 R6 : Code) (c6 : Tmp) (R7 Y8 : Code) (c8 : Tmp) (R9 Z : Code) : Code :=
  (R0.seq (.cond (.tmp c0) t0 .skip)).seq ((Code.block i2 (Code.loop (Code.block i3 (R5.seq ((R6.seq (.cond (.tmp c6) (.exit i2) .skip)).seq (R7.seq ((Y8.seq (.cond (.tmp c8) .ret .skip)).seq R9))))))).seq Z)

/-- the iterator's parts are the program's -/
structure ItOk (P : Program) (md : Nat → Nat) (I : Itr) where
  fn : Func
  R0 : Code
  t0 : Code
  i2 : Nat
  i3 : Nat
  R5 : Code
  R6 : Code
  R7 : Code
  id8 : Nat
  ops8 : Array Oper
  R9 : Code
  idz : Nat
  opsz : Array Oper
  pre8 : List Oper
  o8 : Oper
  post8 : List Oper
  prez : List Oper
  oz : Oper
  postz : List Oper
  hf : P.funcs[I.f]? = some fn
  hb : fn.body = some (itCode R0 I.c0 t0 i2 i3 R5 R6 I.c6 R7 (.region id8 ops8 false) I.c8 R9 (.region idz opsz false))
  hr : fn.results = #[]
  hn : (fn.name == "runtime.NumGoroutine") = false
  hne : i2 ≠ i3
  k0 : cC P md fn.ntmps R0 = some I.r0
  k5 : cC P md fn.ntmps R5 = some I.r5
  k6 : cC P md fn.ntmps R6 = some I.r6
  k7 : cC P md fn.ntmps R7 = some I.r7
  k9 : cC P md fn.ntmps R9 = some I.r9
  h8 : ops8.toList = pre8 ++ o8 :: post8
  p8 : cInss P fn.ntmps ops8 pre8 = some I.y8.pre
  q8 : cInss P fn.ntmps ops8 post8 = some I.y8.post
  y8 : isYield o8 I.y8
  d8 : I.y8.d < fn.ntmps
  hz : opsz.toList = prez ++ oz :: postz
  pz : cInss P fn.ntmps opsz prez = some I.z.pre
  qz : cInss P fn.ntmps opsz postz = some I.z.post
  yz : isYield oz I.z
  dz : I.z.d < fn.ntmps

theorem st_params {nt : Nat} {j : JM} {args : List AV} {l : List Value} (hl : VRs j args l) : St [] j nt (params 0 args) { tmps := l.toArray ++ Array.replicate (nt - l.toArray.size) undef, defers := [] } := by
  refine ⟨fun t v hv => ?_, by simp; omega, rfl⟩
  obtain ⟨k, rfl, hk⟩ := lk_params hv
  obtain ⟨c, h1, h2⟩ := VRs.get hl k v hk
  have hkl : k < l.length := by
    rcases Nat.lt_or_ge k l.length with h | h
    · exact h
    · rw [List.getElem?_eq_none h] at h1; simp at h1
  rw [Nat.zero_add, Array.getD_eq_getD_getElem?, Array.getElem?_append_left (by simpa using hkl)]
  simp only [List.getElem?_toArray, h1, Option.getD_some]
  exact h2

theorem eval_bool {ds : List Deferred} {j : JM} {nt : Nat} {e : Env} {a : Act} (hs : St ds j nt e a) {t : Tmp} {x : Bool} (h : lk e t = some (.bool x)) : a.eval (.tmp t) = .bool x := by
  have := hs.er _ _ h
  simp only [VR] at this
  exact this

theorem it_sound (hcall : CallOk P callF) (hmd : CallCls callF md) (hmo : CallMono callF) (hmix : P.follows .mixedOrders = true) (h0 : Home.G ≤ w0.heap.size)
    (ha : cC P md nt asgC = some R.asg) (hb : cC P md nt bodyC = some R.body) (hp : R.p < nt) (he : ER j1 e1 tmpsE) (hnt : nt ≤ tmpsE.size)
    {I : Itr} (ok : ItOk P md I) {j : JM} {H : Heap} {w : World} {cap : List AV} {lcap : List Value} {e2 : Env} {h2 h3 : Heap} {ex : AEx} {k q : Nat} (hx : Ext j1 j) (li : LI j0 H0 w0 b j H w)
    (hr : w.heap[w0.heap.size + 1]? = some (.loop (recOf fnE tmpsE R.p asgC bodyC w0.heap.size .ready none))) (hcap : VRs j cap lcap)
    (hev0 : evC callF fuel I.r0 (params 0 (.yv b :: cap)) H = some (.normal, e2, h2)) (hc0 : lk e2 I.c0 = some (.bool false)) (hev : evIt callF fuel R I e1 b q e2 h2 = some (ex, h3)) :
    CallsIn (FR none) k P I.f (#[.func (.yield (w0.heap.size + 1)) #[] #[]] ++ lcap.toArray) w (fun en w' => (∃ v, en = .returned v) ∧ ∃ j', Ext j j' ∧ LI j0 H0 w0 b j' h3 w' ∧
      w'.heap[w0.heap.size + 1]? = some (.loop (recOf fnE tmpsE R.p asgC bodyC w0.heap.size (stOf ex) (peOf ex)))) := by
  have fin : ∀ (x : Exit) (a' : Act) (w' : World), (x = .normal ∨ x = .ret) → a'.defers = [] → (∃ j', Ext j j' ∧ LI j0 H0 w0 b j' h3 w' ∧
      w'.heap[w0.heap.size + 1]? = some (.loop (recOf fnE tmpsE R.p asgC bodyC w0.heap.size (stOf ex) (peOf ex)))) → bodyPost P ok.fn (fun en w' => (∃ v, en = .returned v) ∧ ∃ j', Ext j j' ∧ LI j0 H0 w0 b j' h3 w' ∧
      w'.heap[w0.heap.size + 1]? = some (.loop (recOf fnE tmpsE R.p asgC bodyC w0.heap.size (stOf ex) (peOf ex)))) x a' w' := by
    rintro x a' w' (rfl | rfl) hd h
    · exact ⟨hd, _, results_none ok.hr _ _ _, ⟨_, rfl⟩, h⟩
    · exact ⟨hd, _, results_none ok.hr _ _ _, ⟨_, rfl⟩, h⟩
  refine callsIn_of_wp ok.hf ok.hb trivial ?_ rfl
  have hst : St [] j ok.fn.ntmps (params 0 (.yv b :: cap)) { tmps := (#[Value.func (.yield (w0.heap.size + 1)) #[] #[]] ++ lcap.toArray) ++ Array.replicate (ok.fn.ntmps - (#[Value.func (.yield (w0.heap.size + 1)) #[] #[]] ++ lcap.toArray).size) undef, defers := [] } := by
    have := st_params (nt := ok.fn.ntmps) (j := j) (args := .yv b :: cap) (l := Value.func (.yield (w0.heap.size + 1)) #[] #[] :: lcap) ⟨_, _, rfl, ⟨_, li.jd, rfl⟩, hcap⟩
    simpa using this
  unfold itCode
  refine wpIn_seq (wpIn_seq (wpIn_mono (code_sound (rd := none) hcall hmd hmo hmix ok.k0 li.tr.wr hst hev0) ?_))
  rintro x1 a1 w1 ⟨hex, jA, htrA, hsA⟩
  cases x1 <;> simp only [exRel] at hex
  obtain ⟨liA, hrA⟩ := li.step htrA
  rw [hr] at hrA
  refine wpIn_cond_false (eval_bool hsA hc0) (wpIn_skip ?_)
  simp only [Exit.then]
  refine wpIn_seq (wpIn_block ?_)
  refine in_loop (fun q a2 w2 => ∃ e' H' j', Ext j j' ∧ LI j0 H0 w0 b j' H' w2 ∧ St [] j' ok.fn.ntmps e' a2 ∧
    w2.heap[w0.heap.size + 1]? = some (.loop (recOf fnE tmpsE R.p asgC bodyC w0.heap.size .ready none)) ∧ evIt callF fuel R I e1 b q e' H' = some (ex, h3)) (m := q) ⟨e2, h2, jA, htrA.ext, liA, hsA, hrA, hev⟩ ?_ ?_
  · rintro a2 w2 ⟨e', H', j', _, _, _, _, h⟩
    simp [evIt] at h
  · rintro q a2 w2 ⟨e', H', jB, hxB, liB, hsB, hrB, h⟩
    simp only [evIt] at h
    split at h <;> (try simp at h; done)
    rename_i ea ha5 h5
    split at h <;> (try simp at h; done)
    rename_i eb hb6 h6
    refine wpIn_block (wpIn_seq (wpIn_mono (code_sound (rd := none) hcall hmd hmo hmix ok.k5 liB.tr.wr hsB h5) ?_))
    rintro x3 a3 w3 ⟨hex3, jC, htrC, hsC⟩
    cases x3 <;> simp only [exRel] at hex3
    obtain ⟨liC, hrC⟩ := liB.step htrC
    rw [hrB] at hrC
    simp only [Exit.then]
    refine wpIn_seq (wpIn_seq (wpIn_mono (code_sound (rd := none) hcall hmd hmo hmix ok.k6 liC.tr.wr hsC h6) ?_))
    rintro x4 a4 w4 ⟨hex4, jD, htrD, hsD⟩
    cases x4 <;> simp only [exRel] at hex4
    obtain ⟨liD, hrD⟩ := liC.step htrD
    rw [hrC] at hrD
    have hxD : Ext j jD := (hxB.trans htrC.ext).trans htrD.ext
    simp only [Exit.then]
    split at h <;> (try simp at h; done)
    · -- the last part
      rename_i hc6
      split at h <;> (try simp at h; done)
      rename_i ex' ez hz' hz
      simp only [Option.some.injEq, Prod.mk.injEq] at h
      obtain ⟨rfl, rfl⟩ := h
      refine wpIn_cond_true (eval_bool hsD hc6) (wpIn_exit ?_)
      simp only [Exit.then, Exit.inBlock, if_neg ok.hne, if_true]
      refine wpIn_mono (yield_sound hcall hmd hmo hmix h0 ha hb hp he hnt ok.hz ok.pz ok.qz ok.yz ok.dz (hx.trans hxD) liD hrD hsD hz) ?_
      rintro x5 a5 w5 ⟨rfl, jE, hxE, liE, hsE, hrE⟩
      exact fin _ _ _ (.inl rfl) hsE.defers ⟨jE, hxD.trans hxE, liE, hrE⟩
    · rename_i hc6
      split at h <;> (try simp at h; done)
      rename_i ec hc7 h7
      split at h <;> (try simp at h; done)
      rename_i ex' ed hd8 h8
      refine wpIn_cond_false (eval_bool hsD hc6) (wpIn_skip ?_)
      simp only [Exit.then]
      refine wpIn_seq (wpIn_mono (code_sound (rd := none) hcall hmd hmo hmix ok.k7 liD.tr.wr hsD h7) ?_)
      rintro x5 a5 w5 ⟨hex5, jE, htrE, hsE⟩
      cases x5 <;> simp only [exRel] at hex5
      obtain ⟨liE, hrE⟩ := liD.step htrE
      rw [hrD] at hrE
      simp only [Exit.then]
      refine wpIn_seq (wpIn_seq (wpIn_mono (yield_sound hcall hmd hmo hmix h0 ha hb hp he hnt ok.h8 ok.p8 ok.q8 ok.y8 ok.d8 (hx.trans (hxD.trans htrE.ext)) liE hrE hsE h8) ?_))
      rintro x6 a6 w6 ⟨rfl, jF, hxF, liF, hsF, hrF⟩
      have hxF' : Ext j jF := (hxD.trans htrE.ext).trans hxF
      simp only [Exit.then]
      split at h <;> (try simp at h; done)
      · rename_i hc8
        cases hn : ex'.isN with
        | true => rw [hn] at h; simp at h
        | false =>
          rw [hn] at h
          simp only [cond_false, Option.some.injEq, Prod.mk.injEq] at h
          obtain ⟨rfl, rfl⟩ := h
          refine wpIn_cond_true (eval_bool hsF hc8) (wpIn_ret ?_)
          exact fin _ _ _ (.inr rfl) hsF.defers ⟨jF, hxF', liF, hrF⟩
      · rename_i hc8
        cases hn : ex'.isN with
        | false => rw [hn] at h; simp at h
        | true =>
          rw [hn] at h
          simp only [cond_true] at h
          split at h <;> (try simp at h; done)
          rename_i ee he9 h9
          refine wpIn_cond_false (eval_bool hsF hc8) (wpIn_skip ?_)
          simp only [Exit.then]
          refine wpIn_mono (code_sound (rd := none) hcall hmd hmo hmix ok.k9 liF.tr.wr hsF h9) ?_
          rintro x7 a7 w7 ⟨hex7, jG, htrG, hsG⟩
          cases x7 <;> simp only [exRel] at hex7
          obtain ⟨liG, hrG⟩ := liF.step htrG
          rw [hrF] at hrG
          have e1' : ex' = .normal := by cases ex' <;> simp [AEx.isN] at hn ⊢
          subst e1'
          exact ⟨ee, he9, jG, hxF'.trans htrG.ext, liG, hsG, hrG, h⟩
end

/-! ### the function -/
def eachCode (C1 C2 C3 : Code) (i0 : Nat) (g p : Tmp) (asgC bodyC post : Code) : Code :=
  C1.seq (C2.seq ((C3.seq (.block i0 (.rangeFunc (.tmp g) #[p] asgC bodyC))).seq post))

/-- the function's parts are the program's -/
structure RgOk (P : Program) (md : Nat → Nat) (R : Rgf) (f : Nat) where
  fn : Func
  C1 : Code
  C2 : Code
  C3 : Code
  i0 : Nat
  asgC : Code
  bodyC : Code
  postC : Code
  hf : P.funcs[f]? = some fn
  hb : fn.body = some (eachCode C1 C2 C3 i0 R.g R.p asgC bodyC postC)
  hn : (fn.name == "runtime.NumGoroutine") = false
  k1 : cC P md fn.ntmps C1 = some R.p1
  k2 : cC P md fn.ntmps C2 = some R.p2
  k3 : cC P md fn.ntmps C3 = some R.p3
  ka : cC P md fn.ntmps asgC = some R.asg
  kb : cC P md fn.ntmps bodyC = some R.body
  kp : cC P md fn.ntmps postC = some R.post
  hp : R.p < fn.ntmps
  hres : cRes P fn.results.toList = some R.res

theorem each_calls (hcall : CallOk P callF) (hmd : CallCls callF md) (hmo : CallMono callF) (hmix : P.follows .mixedOrders = true) {R : Rgf} {I : Itr} {f n : Nat} (rk : RgOk P md R f) (ik : ItOk P md I)
    {args : List AV} {H H' : Heap} {v : AV} (hev : evEach R I callF n args H = some (v, H')) {j : JM} {w : World} {l : List Value} (hw : WR j H w) (hl : VRs j args l) : Calls P f l.toArray w (FnPost j H w v H') := by
  unfold evEach at hev
  split at hev <;> (try simp at hev; done)
  rename_i ea ha h1
  split at hev <;> (try simp at hev; done)
  rename_i eb hb h2
  split at hev <;> (try simp at hev; done)
  rename_i e1 hh1 h3
  unfold evRng at hev
  split at hev <;> (try simp at hev; done)
  rename_i fi cap hg
  have hfi := (bif_some hev).1
  rw [hfi, cond_true] at hev
  obtain rfl := Nat.eq_of_beq_eq_true hfi
  clear hfi
  split at hev <;> (try simp at hev; done)
  rename_i e2 hh2 h4
  split at hev <;> (try simp at hev; done)
  rename_i hc0
  split at hev <;> (try simp at hev; done)
  rename_i ex hh3 hit
  refine (callsIn_wide (n := 0)).1 (callsIn_of_wp_marks (F := FR none) rk.hf rk.hb trivial ?_ rfl)
  unfold eachCode
  refine wpIn_seq (wpIn_mono (code_sound (rd := none) hcall hmd hmo hmix rk.k1 hw (st_params hl) h1) ?_)
  rintro x1 a1 w1 ⟨hex1, j1, t1, s1⟩
  cases x1 <;> simp only [exRel] at hex1
  simp only [Exit.then]
  refine wpIn_seq (wpIn_mono (code_sound (rd := none) hcall hmd hmo hmix rk.k2 t1.wr s1 h2) ?_)
  rintro x2 a2 w2 ⟨hex2, j2, t2, s2⟩
  cases x2 <;> simp only [exRel] at hex2
  simp only [Exit.then]
  refine wpIn_seq (wpIn_seq (wpIn_mono (code_sound (rd := none) hcall hmd hmo hmix rk.k3 t2.wr s2 h3) ?_))
  rintro x3 a3 w3 ⟨hex3, j3, t3, s3⟩
  cases x3 <;> simp only [exRel] at hex3
  simp only [Exit.then]
  have tr := (t1.trans t2).trans t3
  obtain ⟨l0, lcap, hgv, hl0, hcap⟩ := s3.er _ _ hg
  simp only [VRs] at hl0
  subst hl0
  have finish : ∀ (x : Exit) (a' : Act) (w' : World) (j' : JM) (e' : Env) (h' : Heap), (x = .normal ∨ x = .ret) → St [{ target := .collected w3.heap.size, args := #[] }] j' rk.fn.ntmps e' a' →
      LI j3 hh1 w3 hh1.nb j' h' w' → resV e' h' R.res = some (v, H') → bodyPostM (FR none) 0 P rk.fn (FnPost j H w v H') x a' w' := by
    intro x a' w' j' e' h' hx hs hli hre
    unfold resV at hre
    split at hre <;> (try simp at hre; done)
    rename_i vs hvs
    simp only [Option.some.injEq, Prod.mk.injEq] at hre
    obtain ⟨rfl, rfl⟩ := hre
    have tsh := hli.shut t3.wr.gsz
    obtain ⟨c, hv, hrun⟩ := results_sound tsh.wr hs.er rk.hres hvs
    have key : LeavesInM (FR none) 0 P rk.fn a'.tmps (FnPost j H w (single vs) h') a'.defers .returning w' := by
      rw [hs.defers]
      exact ⟨by simp, .inl ⟨_, _, rfl, run_takeDeferred hli.dd, _, hrun, j', c, tr.trans tsh, hv, rfl⟩⟩
    rcases hx with rfl | rfl
    · exact key
    · exact key
  refine wpIn_block (wpIn_rangeFunc ?_)
  intro fn hfn
  obtain ⟨li0, hr0⟩ := LI.start t3.wr (recOf fn a3.tmps R.p rk.asgC rk.bodyC w3.heap.size .ready none)
  have hinv : ∀ (as : Array Value) (W : World), (callFunc I.f as).run P W = .ok (.enter I.f as) W := run_callFunc ik.hf ik.hb ik.hn
  have hgv' : a3.eval (.tmp R.g) = .func (.func I.f) #[] lcap.toArray := hgv
  refine ⟨w3.heap.size + 1, [{ target := .collected w3.heap.size, args := #[] }], ((w3.alloc (.deferred (some []))).alloc (.loop (recOf fn a3.tmps R.p rk.asgC rk.bodyC w3.heap.size .ready none))),
    { target := .fn (.func I.f) lcap.toArray, args := #[.func (.yield (w3.heap.size + 1)) #[] #[]] }, ((w3.alloc (.deferred (some []))).alloc (.loop (recOf fn a3.tmps R.p rk.asgC rk.bodyC w3.heap.size .ready none))), I.f,
    #[.func (.yield (w3.heap.size + 1)) #[] #[]] ++ lcap.toArray, ((w3.alloc (.deferred (some []))).alloc (.loop (recOf fn a3.tmps R.p rk.asgC rk.bodyC w3.heap.size .ready none))), run_enterLoop_outer _ _ _ _ _, ?_, fun _ _ => trivial, ?_, fun h => by simp [Fence.wide] at h, ?_⟩
  · simp only [resolve, hgv', Deferred.ofValue, Sem.run_pure]
    simp [Act.eval]
  · simp only [invoke, hinv]
  · refine (it_sound (R := R) hcall hmd hmo hmix t3.wr.gsz rk.ka rk.kb rk.hp s3.er s3.size ik li0.tr.ext li0 hr0 (VRs.mono li0.tr.ext hcap) h4 hc0 hit).mono ?_
    rintro en w4 ⟨⟨u, rfl⟩, j4, hx4, li4, hr4⟩
    have hnb : (recOf fn a3.tmps R.p rk.asgC rk.bodyC w3.heap.size (stOf ex) (peOf ex)).state ≠ .busy := by cases ex <;> simp [recOf, stOf]
    obtain ⟨li5, hr5⟩ := li4.put t3.wr.gsz hr4 { recOf fn a3.tmps R.p rk.asgC rk.bodyC w3.heap.size (stOf ex) (peOf ex) with state := .exhausted }
    refine ⟨peOf ex, _, run_endLoop hr4 hnb, ?_⟩
    have s5 : St [{ target := .collected w3.heap.size, args := #[] }] j4 rk.fn.ntmps e1 { a3 with defers := [{ target := .collected w3.heap.size, args := #[] }] ++ a3.defers } :=
      ⟨s3.er.mono (li0.tr.ext.trans hx4), s3.size, by rw [s3.defers]; rfl⟩
    cases ex with
    | normal =>
      simp only [peOf, Exit.inBlock, Exit.then]
      simp only [evAft] at hev
      split at hev <;> (try simp at hev; done)
      all_goals
        rename_i e6 h6 hpost
        refine wpIn_mono (code_sound (rd := none) hcall hmd hmo hmix rk.kp li5.tr.wr s5 hpost) ?_
        rintro x6 a6 w6 ⟨hex6, j6, t6, s6⟩
        cases x6 <;> simp only [exRel] at hex6
      · exact finish _ _ _ _ _ _ (.inl rfl) s6 (li5.step t6).1 hev
      · exact finish _ _ _ _ _ _ (.inr rfl) s6 (li5.step t6).1 hev
    | ret =>
      simp only [peOf]
      refine wpIn_ret ?_
      simp only [Exit.inBlock, Exit.then]
      exact finish _ _ _ _ _ _ (.inr rfl) s5 li5 hev
    | exit id => simp [evAft] at hev

/-! ### the log -/
theorem Mono.skip (h : Heap) : Mono h h.skip := ⟨fun _ hb => has_push [] hb, [], rfl, fun _ _ _ => rfl⟩

theorem mono_round (hmd : CallCls callF md) (hmo : CallMono callF) {n : Nat} {R : Rgf} {e1 : Env} {x : AV} {h h3 : Heap} {ex : AEx} (hev : evRound callF n R e1 x h = some (ex, h3)) : Mono h h3 := by
  unfold evRound at hev
  split at hev <;> (try simp at hev; done)
  rename_i e2 h2 ha
  split at hev <;> (try simp at hev; done)
  rename_i ex' e3 h3' hb
  simp only [Option.some.injEq, Prod.mk.injEq] at hev
  obtain ⟨rfl, rfl⟩ := hev
  exact (mono_evC hmd hmo ha).trans (mono_evC hmd hmo hb)

theorem mono_y (hmd : CallCls callF md) (hmo : CallMono callF) {n b : Nat} {R : Rgf} {Y : Yr} {e1 e e4 : Env} {h h4 : Heap} {ex : AEx} (hev : evY callF n R e1 b Y e h = some (ex, e4, h4)) : Mono h h4 := by
  unfold evY at hev
  split at hev <;> (try simp at hev; done)
  rename_i e2 h2 hrun
  split at hev <;> (try simp at hev; done)
  have hbb := (bif_some hev).1
  rw [hbb, cond_true] at hev
  split at hev <;> (try simp at hev; done)
  rename_i ex' h3 hround
  split at hev <;> (try simp at hev; done)
  rename_i e4' h4' hpostr
  simp only [Option.some.injEq, Prod.mk.injEq] at hev
  obtain ⟨rfl, rfl, rfl⟩ := hev
  exact ((mono_ins hmd hmo hrun).trans (mono_round hmd hmo hround)).trans (mono_ins hmd hmo hpostr)

theorem mono_it (hmd : CallCls callF md) (hmo : CallMono callF) {n b : Nat} {R : Rgf} {I : Itr} {e1 : Env} : ∀ (q : Nat) {e : Env} {h h3 : Heap} {ex : AEx}, evIt callF n R I e1 b q e h = some (ex, h3) → Mono h h3
  | 0, e, h, h3, ex, hev => by simp [evIt] at hev
  | q + 1, e, h, h3, ex, hev => by
    simp only [evIt] at hev
    split at hev <;> (try simp at hev; done)
    rename_i ea ha h5
    split at hev <;> (try simp at hev; done)
    rename_i eb hb h6
    have m1 := (mono_evC hmd hmo h5).trans (mono_evC hmd hmo h6)
    split at hev <;> (try simp at hev; done)
    · split at hev <;> (try simp at hev; done)
      rename_i ex' ez hz' hz
      simp only [Option.some.injEq, Prod.mk.injEq] at hev
      obtain ⟨rfl, rfl⟩ := hev
      exact m1.trans (mono_y hmd hmo hz)
    · split at hev <;> (try simp at hev; done)
      rename_i ec hc h7
      split at hev <;> (try simp at hev; done)
      rename_i ex' ed hd h8
      have m2 := (m1.trans (mono_evC hmd hmo h7)).trans (mono_y hmd hmo h8)
      split at hev <;> (try simp at hev; done)
      · cases hn : ex'.isN with
        | true => rw [hn] at hev; simp at hev
        | false =>
          rw [hn] at hev
          simp only [cond_false, Option.some.injEq, Prod.mk.injEq] at hev
          obtain ⟨rfl, rfl⟩ := hev
          exact m2
      · cases hn : ex'.isN with
        | false => rw [hn] at hev; simp at hev
        | true =>
          rw [hn] at hev
          simp only [cond_true] at hev
          split at hev <;> (try simp at hev; done)
          rename_i ee he h9
          exact (m2.trans (mono_evC hmd hmo h9)).trans (mono_it hmd hmo q hev)

theorem resV_heap {e : Env} {h h' : Heap} {rs : List (Nat × Option (Nat × Bool))} {v : AV} (hr : resV e h rs = some (v, h')) : h' = h := by
  unfold resV at hr
  split at hr
  · simp only [Option.some.injEq, Prod.mk.injEq] at hr; exact hr.2.symm
  · simp at hr

theorem mono_each (hmd : CallCls callF md) (hmo : CallMono callF) {n : Nat} {R : Rgf} {I : Itr} {args : List AV} {H H' : Heap} {v : AV} (hev : evEach R I callF n args H = some (v, H')) : Mono H H' := by
  unfold evEach at hev
  split at hev <;> (try simp at hev; done)
  rename_i ea ha h1
  split at hev <;> (try simp at hev; done)
  rename_i eb hb h2
  split at hev <;> (try simp at hev; done)
  rename_i e1 hh1 h3
  unfold evRng at hev
  split at hev <;> (try simp at hev; done)
  have hfi := (bif_some hev).1
  rw [hfi, cond_true] at hev
  split at hev <;> (try simp at hev; done)
  rename_i e2 hh2 h4
  split at hev <;> (try simp at hev; done)
  split at hev <;> (try simp at hev; done)
  rename_i ex hh3 hit
  have m0 := ((mono_evC hmd hmo h1).trans (mono_evC hmd hmo h2)).trans (mono_evC hmd hmo h3)
  have m1 := ((m0.trans (Mono.skip _)).trans (mono_evC hmd hmo h4)).trans (mono_it hmd hmo _ hit)
  cases ex with
  | normal =>
    simp only [evAft] at hev
    split at hev <;> (try simp at hev; done)
    all_goals
      rename_i e6 h6 hpost
      rw [resV_heap hev]
      exact m1.trans (mono_evC hmd hmo hpost)
  | ret => simp only [evAft] at hev; rw [resV_heap hev]; exact m1
  | exit id => simp [evAft] at hev

/-- the function's own evaluator is sound -/
theorem each_good (hmix : P.follows .mixedOrders = true) {R : Rgf} {I : Itr} {f : Nat} (rk : RgOk P md R f) (ik : ItOk P md I) (h0 : md f = 0) :
    ∀ f' g, (if f' = f then some (evEach R I) else none) = some g → md f' = 0 ∧ (∀ (l : Array Value) (w : World), (callFunc f' l).run P w = .ok (.enter f' l) w) ∧
      ∀ callF, CallOk P callF → CallCls callF md → CallMono callF → ∀ n args H v H', g callF n args H = some (v, H') →
        Mono H H' ∧ ∀ (j : JM) (w : World) (l : List Value), WR j H w → VRs j args l → Calls P f' l.toArray w (FnPost j H w v H') := by
  intro f' g hg
  split at hg
  · rename_i hf
    subst hf
    obtain rfl := Option.some.inj hg
    exact ⟨h0, fun l w => run_callFunc rk.hf rk.hb rk.hn _ _, fun callF hc hd ho n args H v H' hev => ⟨mono_each hd ho hev, fun j w l hw hl => each_calls hc hd ho hmix rk ik hev hw hl⟩⟩
  · simp at hg

/-! ### the parts out of the loaded program -/
def yrOf (P : Program) (nt : Nat) (ops : Array Oper) (k : Nat) : Option Yr :=
  match ops.toList.drop k with
  | o :: post => match o.op, o.guard, o.dst with
    | .call { callee := .value (.tmp y), args := xs, argTypes := _ }, none, some d => match xs.toList, cInss P nt ops (ops.toList.take k), cInss P nt ops post with
      | [.tmp x], some a, some b => if d < nt then some ⟨a, y, x, d, b⟩ else none
      | _, _, _ => none
    | _, _, _ => none
  | [] => none

theorem yrOf_good {nt : Nat} {ops : Array Oper} {k : Nat} {Y : Yr} (h : yrOf P nt ops k = some Y) :
    ∃ pre o post, ops.toList = pre ++ o :: post ∧ cInss P nt ops pre = some Y.pre ∧ cInss P nt ops post = some Y.post ∧ isYield o Y ∧ Y.d < nt := by
  unfold yrOf at h
  split at h <;> (try simp at h; done)
  rename_i o post hd
  split at h <;> (try simp at h; done)
  rename_i y xs at' d ho hg hdst
  split at h <;> (try simp at h; done)
  rename_i x a b hx ha hb
  obtain ⟨hlt, h⟩ := if_some h
  obtain rfl := Option.some.inj h
  refine ⟨ops.toList.take k, o, post, ?_, ha, hb, ⟨hg, hdst, at', ?_⟩, hlt⟩
  · rw [← hd, List.take_append_drop]
  · rw [ho]
    congr 1
    congr 1
    apply Array.toList_inj.1
    rw [hx]

def mkRg (P : Program) (md : Nat → Nat) (f : Nat) : Option Rgf :=
  match P.funcs[f]? with
  | some fn => if fn.name == "runtime.NumGoroutine" then none else match fn.body with
    | some (.seq C1 (.seq C2 (.seq (.seq C3 (.block _ (.rangeFunc (.tmp g) ps asgC bodyC))) postC))) => match ps.toList with
      | [p] => match cC P md fn.ntmps C1, cC P md fn.ntmps C2, cC P md fn.ntmps C3, cC P md fn.ntmps asgC, cC P md fn.ntmps bodyC, cC P md fn.ntmps postC, cRes P fn.results.toList with
        | some p1, some p2, some p3, some a, some b, some q, some rs => if p < fn.ntmps then some ⟨p1, p2, p3, g, p, a, b, q, rs⟩ else none
        | _, _, _, _, _, _, _ => none
      | _ => none
    | _ => none
  | none => none

theorem mkRg_good {f : Nat} {R : Rgf} (h : mkRg P md f = some R) : Nonempty (RgOk P md R f) := by
  unfold mkRg at h
  split at h <;> (try simp at h; done)
  rename_i fn hfn
  split at h <;> (try simp at h; done)
  rename_i hn
  split at h <;> (try simp at h; done)
  rename_i C1 C2 C3 i0 g ps asgC bodyC postC hb
  split at h <;> (try simp at h; done)
  rename_i p hps
  split at h <;> (try simp at h; done)
  rename_i p1 p2 p3 a b q rs h1 h2 h3 h4 h5 h6 h7
  obtain ⟨hlt, h⟩ := if_some h
  obtain rfl := Option.some.inj h
  have e : ps = #[p] := Array.toList_inj.1 (by rw [hps])
  subst e
  exact ⟨⟨fn, C1, C2, C3, i0, asgC, bodyC, postC, hfn, hb, by simpa using hn, h1, h2, h3, h4, h5, h6, hlt, h7⟩⟩

def mkIt (P : Program) (md : Nat → Nat) (f k8 kz : Nat) : Option Itr :=
  match P.funcs[f]? with
  | some fn => if fn.name == "runtime.NumGoroutine" then none else if fn.results.toList.isEmpty then (match fn.body with
    | some (.seq (.seq R0 (.cond (.tmp c0) _ .skip)) (.seq (.block i2 (.loop (.block i3 (.seq R5 (.seq (.seq R6 (.cond (.tmp c6) (.exit i2') .skip)) (.seq R7 (.seq (.seq (.region _ ops8 false) (.cond (.tmp c8) .ret .skip)) R9))))))) (.region _ opsz false))) =>
      if i2' = i2 ∧ i2 ≠ i3 then (match cC P md fn.ntmps R0, cC P md fn.ntmps R5, cC P md fn.ntmps R6, cC P md fn.ntmps R7, cC P md fn.ntmps R9, yrOf P fn.ntmps ops8 k8, yrOf P fn.ntmps opsz kz with
        | some r0, some r5, some r6, some r7, some r9, some y8, some z => some ⟨f, r0, c0, r5, r6, c6, r7, y8, c8, r9, z⟩
        | _, _, _, _, _, _, _ => none) else none
    | _ => none) else none
  | none => none

theorem mkIt_good {f k8 kz : Nat} {I : Itr} (h : mkIt P md f k8 kz = some I) : Nonempty (ItOk P md I) := by
  unfold mkIt at h
  split at h <;> (try simp at h; done)
  rename_i fn hfn
  split at h <;> (try simp at h; done)
  rename_i hn
  split at h <;> (try simp at h; done)
  rename_i hr
  split at h <;> (try simp at h; done)
  rename_i R0 c0 t0 i2 i3 R5 R6 c6 i2' R7 id8 ops8 c8 R9 idz opsz hb
  have hc := (if_some h).1
  rw [if_pos hc] at h
  obtain ⟨rfl, hne⟩ := hc
  split at h <;> (try simp at h; done)
  rename_i r0 r5 r6 r7 r9 y8 z h0 h5 h6 h7 h9 h8 hz
  obtain rfl := Option.some.inj h
  obtain ⟨pre8, o8, post8, a1, a2, a3, a4, a5⟩ := yrOf_good h8
  obtain ⟨prez, oz, postz, b1, b2, b3, b4, b5⟩ := yrOf_good hz
  have e : fn.results = #[] := Array.toList_inj.1 (by simpa using hr)
  exact ⟨⟨fn, R0, t0, _, i3, R5, R6, R7, id8, ops8, R9, idz, opsz, pre8, o8, post8, prez, oz, postz, hfn, hb, e, by simpa using hn, hne, h0, h5, h6, h7, h9, a1, a2, a3, a4, a5, b1, b2, b3, b4, b5⟩⟩

end
end Go.Ev

/- Go's strconv and strings, as the evaluator may know them: what their calls answer, by the library's proved contracts. -/

namespace Go.Ev
set_option linter.unusedSectionVars false
set_option linter.unusedVariables false
set_option linter.unusedSimpArgs false
open Go Go.RowKit

/-! ### functions that the kernel computes -/
def digF : Nat → Nat → List UInt8
  | 0, _ => []
  | f + 1, u => bif Nat.blt u 10 then [UInt8.ofNat (48 + u)] else digF f (u / 10) ++ [UInt8.ofNat (48 + u % 10)]

theorem digF_is : ∀ (f u : Nat), u < 10 ^ f → 0 < f → digF f u = Lib.decDigits u
  | 0, u, h, h0 => by omega
  | f + 1, u, h, _ => by
    unfold digF Lib.decDigits
    simp only [cond_eq_ite, Nat.blt_eq]
    split
    · rfl
    · rename_i hu
      have hf : 0 < f := by
        rcases Nat.eq_zero_or_pos f with rfl | h1
        · simp at h; omega
        · exact h1
      rw [digF_is f (u / 10) (by rw [Nat.pow_succ] at h; omega) hf]

def itoaF (n : Int) : List UInt8 := bif decide (n < 0) then 45 :: digF 20 n.natAbs else digF 20 n.toNat

theorem itoaF_is {n : Int} (h0 : -9223372036854775808 ≤ n) (h1 : n ≤ 9223372036854775807) : itoaF n = Lib.itoa n := by
  have hp : (10 : Nat) ^ 20 = 100000000000000000000 := by decide
  unfold itoaF Lib.itoa
  simp only [cond_eq_ite, decide_eq_true_eq]
  split
  · rw [digF_is 20 _ (by rw [hp]; omega) (by omega)]
  · rw [digF_is 20 _ (by rw [hp]; omega) (by omega)]

def idxF : List UInt8 → List UInt8 → Nat → Int
  | [], sub, k => bif sub.isEmpty then (k : Int) else -1
  | b :: l, sub, k => bif sub.isPrefixOf (b :: l) then (k : Int) else idxF l sub (k + 1)

theorem idxF_is (sub : List UInt8) : ∀ (l : List UInt8) (k : Nat), idxF l sub k = if Lib.index l sub = -1 then -1 else Lib.index l sub + k
  | [], k => by
    unfold idxF Lib.index
    cases h : sub.isEmpty <;> simp
  | b :: l, k => by
    have hge := Lib.index_ge l sub
    unfold idxF Lib.index
    cases h : sub.isPrefixOf (b :: l)
    · simp only [cond_false, Bool.false_eq_true, if_false, beq_iff_eq]
      rw [idxF_is sub l (k + 1)]
      split
      · simp
      · rw [if_neg (by omega)]; omega
    · simp

theorem idxF_zero (l sub : List UInt8) : idxF l sub 0 = Lib.index l sub := by
  rw [idxF_is]
  split
  · rename_i h; exact h.symm
  · simp

/-- what strconv.ParseInt(s, 10, 64) comes to -/
def pintF (s : List UInt8) : AV :=
  match Lib.parseIntB 64 s with
  | .ok v => .tup [.int .i64 v, .niliface]
  | .range => .tup [.int .i64 (Lib.intSat 64 s), .ifaceX]
  | _ => .tup [.int .i64 0, .ifaceX]

def i64B (n : Int) : Bool := decide (-9223372036854775808 ≤ n) && decide (n ≤ 9223372036854775807)

/-- the numbers of the library's functions: Itoa, FormatInt, ParseInt, stringslite.Index; strings.Join -/
structure LibF where
  itoa : Nat
  fint : Nat
  pint : Nat
  index : Nat
  join : Nat

def spL (L : LibF) (f : Nat) (args : List AV) : Option AV :=
  bif f.beq L.itoa then (match args with
    | [.int .i64 n] => bif i64B n then some (.str (itoaF n)) else none
    | _ => none) else
  bif f.beq L.fint then (match args with
    | [.int .i64 n, .int .i64 b] => bif i64B n && decide (b = 10) then some (.str (itoaF n)) else none
    | _ => none) else
  bif f.beq L.pint then (match args with
    | [.str s, .int .i64 b, .int .i64 z] => bif decide (s.length ≤ 281474976710656) && decide (b = 10) && decide (z = 64) then some (pintF s) else none
    | _ => none) else
  bif f.beq L.index then (match args with
    | [.str s, .str t] => bif decide (s.length < 4294967281) then some (.int .i64 (idxF s t 0)) else none
    | _ => none) else none

def strsOf : List AV → Option (List (List UInt8))
  | [] => some []
  | .str s :: r => match strsOf r with
    | some l => some (s :: l)
    | none => none
  | _ => none

/-- strings.Join -/
def evJoin (callF : CallF) (n : Nat) (args : List AV) (h : Heap) : Option (AV × Heap) :=
  match args with
  | [.nilsl, .str sep] => some (.str [], h)
  | [.sl b o len cap z, .str sep] => (match loadAt h b o (len * 1) with
    | some cs => (match strsOf cs with
      | some xs => bif z.beq 1 && decide (len ≤ 140737488355328) && decide ((Lib.join xs sep).length ≤ 140737488355328) then some (.str (Lib.join xs sep), h) else none
      | none => none)
    | none => none)
  | _ => none

/-- what the library's contracts ask of memory -/
structure LibOk (P : Program) (maxLen : Nat) (w : World) : Prop where
  pow : w.var? P "internal/strconv.uint64pow10" = some (Lib.pow10Tab.map fun z => Value.int .u64 z).toArray
  syn : ∃ tp p, w.var? P "strconv.ErrSyntax" = some #[.iface tp p]
  rng : ∃ tp p, w.var? P "strconv.ErrRange" = some #[.iface tp p]
  max : ∃ m, w.cell? ⟨maxLen, 0, none⟩ = some (.int .i64 m)

/-- the contracts, of a program -/
structure LibC (P : Program) (L : LibF) (w : World) : Prop where
  itoa : ∀ n : Int, -9223372036854775808 ≤ n → n ≤ 9223372036854775807 → Calls P L.itoa #[.int .i64 n] w fun e w' => e = .returned (.string ⟨(Lib.itoa n).toArray⟩) ∧ Below w.heap.size w w'
  fint : ∀ n : Int, -9223372036854775808 ≤ n → n ≤ 9223372036854775807 → Calls P L.fint #[.int .i64 n, .int .i64 10] w fun e w' => e = .returned (.string ⟨(Lib.itoa n).toArray⟩) ∧ Below w.heap.size w w'
  pok : ∀ (s : ByteArray) (v : Int), s.size ≤ 281474976710656 → Lib.parseIntB 64 s.data.toList = .ok v → Calls P L.pint #[.string s, .int .i64 10, .int .i64 64] w fun e w' => e = .returned (.tuple #[.int .i64 v, .nilIface]) ∧ Below w.heap.size w w'
  psyn : ∀ (s : ByteArray), s.size ≤ 281474976710656 → Lib.parseIntB 64 s.data.toList = Lib.parseIntB 64 [] → Calls P L.pint #[.string s, .int .i64 10, .int .i64 64] w fun e w' => (∃ t u, e = .returned (.tuple #[.int .i64 0, .iface t u])) ∧ Below w.heap.size w w'
  prng : ∀ (s : ByteArray), s.size ≤ 281474976710656 → Lib.parseIntB 64 s.data.toList = .range → Calls P L.pint #[.string s, .int .i64 10, .int .i64 64] w fun e w' => (∃ t u, e = .returned (.tuple #[.int .i64 (Lib.intSat 64 s.data.toList), .iface t u])) ∧ Below w.heap.size w w'
  index : ∀ s sub : ByteArray, s.size < 4294967281 → Calls P L.index #[.string s, .string sub] w fun e w' => e = .returned (.int .i64 (Lib.index s.data.toList sub.data.toList)) ∧ Below w.heap.size w w'
  join : ∀ (bk o c : Nat) (xs : List ByteArray) (sep : ByteArray), (∀ (j : Nat) (x : ByteArray), xs[j]? = some x → w.cell? ⟨bk, o + j, none⟩ = some (.string x)) → bk < w.heap.size → xs.length ≤ 140737488355328 → xs.length ≤ c →
    (Lib.join (xs.map fun x => x.data.toList) sep.data.toList).length ≤ 140737488355328 →
    Calls P L.join #[.slice (some ⟨bk, o, none⟩) xs.length c, .string sep] w fun e w' => e = .returned (.string ⟨(Lib.join (xs.map fun x => x.data.toList) sep.data.toList).toArray⟩) ∧ Below w.heap.size w w'
  jnone : ∀ (a : Option Addr) (c : Nat) (sep : ByteArray), Calls P L.join #[.slice a 0 c, .string sep] w fun e w' => e = .returned (.string ⟨#[]⟩) ∧ Below w.heap.size w w'

structure LibEnter (P : Program) (L : LibF) : Prop where
  itoa : ∀ (l : Array Value) (w : World), (callFunc L.itoa l).run P w = .ok (.enter L.itoa l) w
  fint : ∀ (l : Array Value) (w : World), (callFunc L.fint l).run P w = .ok (.enter L.fint l) w
  pint : ∀ (l : Array Value) (w : World), (callFunc L.pint l).run P w = .ok (.enter L.pint l) w
  index : ∀ (l : Array Value) (w : World), (callFunc L.index l).run P w = .ok (.enter L.index l) w
  join : ∀ (l : Array Value) (w : World), (callFunc L.join l).run P w = .ok (.enter L.join l) w

/-! ### worlds -/
theorem below_grow (w : World) (k : Nat) (os : Array Obj) : Below w.heap.size w (Sort.grow (w.drewN k) os) :=
  ⟨rfl, rfl, rfl, by simp [Sort.grow], fun i hi => by simp only [Sort.grow, World.heap_drewN]; exact Array.getElem?_append_left hi⟩

theorem var?_congr {P : Program} {w w' : World} {name : String} {cs : Array Value} {G : Nat} (hg : G ≤ w.heap.size) (hk : ∀ k, k < w.heap.size → w'.heap[k]? = w.heap[k]?) (h : w.var? P name = some cs) : w'.var? P name = some cs := by
  unfold World.var? at h ⊢
  cases hn : P.globalNamed name with
  | none => rw [hn] at h; simp at h
  | some g =>
    rw [hn] at h
    simp only [Option.bind_some] at h ⊢
    have hlt : g < w.heap.size := by
      rcases Nat.lt_or_ge g w.heap.size with h1 | h1
      · exact h1
      · rw [Array.getElem?_eq_none h1] at h; simp at h
    rw [hk g hlt]
    exact h

theorem LibOk.congr {P : Program} {m : Nat} {w w' : World} (hk : ∀ k, k < w.heap.size → w'.heap[k]? = w.heap[k]?) (h : LibOk P m w) : LibOk P m w' := by
  obtain ⟨a, b, hs⟩ := h.syn
  obtain ⟨c, d, hr⟩ := h.rng
  obtain ⟨x, hx⟩ := h.max
  refine ⟨var?_congr (Nat.le_refl _) hk h.pow, ⟨a, b, var?_congr (Nat.le_refl _) hk hs⟩, ⟨c, d, var?_congr (Nat.le_refl _) hk hr⟩, x, ?_⟩
  have hlt : m < w.heap.size := by
    rcases Nat.lt_or_ge m w.heap.size with h1 | h1
    · exact h1
    · simp only [World.cell?, Array.getElem?_eq_none h1] at hx; simp at hx
  simp only [World.cell?, hk m hlt] at hx ⊢
  exact hx

/-- what lay when the law's call began lies as it lay -/
@[reducible] def homeAt (w0 : World) : Home where
  G := w0.heap.size
  I := fun w => ∀ k, k < w0.heap.size → w.heap[k]? = w0.heap[k]?
  keep := fun w w' h _ hk k hlt => (hk k hlt).trans (h k hlt)

variable [Home]

theorem trans_below {j : JM} {H : Heap} {w w' : World} (hw : WR j H w) (hb : Below w.heap.size w w') : Trans j H w j H w' := by
  have hwr : WR j H w' := hw.of_heap hb.size (fun b cs loc hb' hj => by
    obtain ⟨loc', h1, h2, _⟩ := hw.cell b cs hb'
    rw [hj] at h1
    obtain rfl := Option.some.inj h1
    exact hb.block _ h2) (Home.keep w w' hw.inv hb.size (fun k hk => hb.block k (Nat.lt_of_lt_of_le hk hw.gsz)))
  exact ⟨Ext.refl j, hwr, fun _ => rfl, fun _ h => h, hb.os, hb.tape, hb.output, hb.size, fun k hk _ => hb.block k hk, fun k hk h => h, fun _ _ h => h⟩

section
variable {P : Program} {L : LibF}

theorem spL_good (hE : LibEnter P L) (hC : ∀ w, Home.I w → LibC P L w) : GoodS P (spL L) := by
  intro f args v h
  unfold spL at h
  rw [cond_eq_ite] at h
  split at h
  · rename_i hf
    obtain rfl := Nat.eq_of_beq_eq_true hf
    split at h <;> (try simp at h; done)
    rename_i n
    have hn := (bif_some h).1
    rw [hn, cond_true] at h
    obtain rfl := Option.some.inj h
    simp only [i64B, Bool.and_eq_true, decide_eq_true_eq] at hn
    refine ⟨hE.itoa, fun j H w l hw hl => ?_⟩
    obtain ⟨c, cs, rfl, rfl, rfl⟩ := hl
    refine ((hC w hw.inv).itoa n hn.1 hn.2).mono ?_
    rintro e w' ⟨rfl, hb⟩
    exact ⟨j, _, trans_below hw hb, by simp only [VR]; rw [itoaF_is hn.1 hn.2], rfl⟩
  rw [cond_eq_ite] at h
  split at h
  · rename_i hf
    obtain rfl := Nat.eq_of_beq_eq_true hf
    split at h <;> (try simp at h; done)
    rename_i n b
    have hn := (bif_some h).1
    rw [hn, cond_true] at h
    obtain rfl := Option.some.inj h
    simp only [i64B, Bool.and_eq_true, decide_eq_true_eq] at hn
    obtain ⟨hn, rfl⟩ := hn
    refine ⟨hE.fint, fun j H w l hw hl => ?_⟩
    obtain ⟨c, cs, rfl, rfl, c2, cs2, rfl, rfl, rfl⟩ := hl
    refine ((hC w hw.inv).fint n hn.1 hn.2).mono ?_
    rintro e w' ⟨rfl, hb⟩
    exact ⟨j, _, trans_below hw hb, by simp only [VR]; rw [itoaF_is hn.1 hn.2], rfl⟩
  rw [cond_eq_ite] at h
  split at h
  · rename_i hf
    obtain rfl := Nat.eq_of_beq_eq_true hf
    split at h <;> (try simp at h; done)
    rename_i s b z
    have hn := (bif_some h).1
    rw [hn, cond_true] at h
    obtain rfl := Option.some.inj h
    simp only [Bool.and_eq_true, decide_eq_true_eq] at hn
    obtain ⟨⟨hn, rfl⟩, rfl⟩ := hn
    refine ⟨hE.pint, fun j H w l hw hl => ?_⟩
    obtain ⟨c, cs, rfl, rfl, c2, cs2, rfl, rfl, c3, cs3, rfl, rfl, rfl⟩ := hl
    have hsz : (⟨s.toArray⟩ : ByteArray).size ≤ 281474976710656 := by simpa [ByteArray.size] using hn
    have hok : ∀ v, Lib.parseIntB 64 s = .ok v → Calls P L.pint [Value.string ⟨s.toArray⟩, .int .i64 10, .int .i64 64].toArray w (FnPost j H w (pintF s) H) := fun v hv => by
      refine ((hC w hw.inv).pok ⟨s.toArray⟩ v hsz (by simpa using hv)).mono ?_
      rintro e w' ⟨rfl, hb⟩
      refine ⟨j, _, trans_below hw hb, ?_, rfl⟩
      unfold pintF
      rw [hv]
      exact ⟨_, rfl, _, _, rfl, rfl, _, _, rfl, rfl, rfl⟩
    have hrg : Lib.parseIntB 64 s = .range → Calls P L.pint [Value.string ⟨s.toArray⟩, .int .i64 10, .int .i64 64].toArray w (FnPost j H w (pintF s) H) := fun hv => by
      refine ((hC w hw.inv).prng ⟨s.toArray⟩ hsz (by simpa using hv)).mono ?_
      rintro e w' ⟨⟨t, u, rfl⟩, hb⟩
      refine ⟨j, _, trans_below hw hb, ?_, rfl⟩
      unfold pintF
      rw [hv]
      exact ⟨_, rfl, _, _, rfl, rfl, _, _, rfl, ⟨t, u, rfl⟩, rfl⟩
    have hsy : Lib.parseIntB 64 s = Lib.parseIntB 64 [] → Calls P L.pint [Value.string ⟨s.toArray⟩, .int .i64 10, .int .i64 64].toArray w (FnPost j H w (pintF s) H) := fun hv => by
      refine ((hC w hw.inv).psyn ⟨s.toArray⟩ hsz (by simpa using hv)).mono ?_
      rintro e w' ⟨⟨t, u, rfl⟩, hb⟩
      refine ⟨j, _, trans_below hw hb, ?_, rfl⟩
      unfold pintF
      rw [hv]
      exact ⟨_, rfl, _, _, rfl, rfl, _, _, rfl, ⟨t, u, rfl⟩, rfl⟩
    cases hv : Lib.parseIntB 64 s
    all_goals first | exact hok _ hv | exact hrg hv | exact hsy hv
  rw [cond_eq_ite] at h
  split at h
  · rename_i hf
    obtain rfl := Nat.eq_of_beq_eq_true hf
    split at h <;> (try simp at h; done)
    rename_i s t
    have hn := (bif_some h).1
    rw [hn, cond_true] at h
    obtain rfl := Option.some.inj h
    simp only [decide_eq_true_eq] at hn
    refine ⟨hE.index, fun j H w l hw hl => ?_⟩
    obtain ⟨c, cs, rfl, rfl, c2, cs2, rfl, rfl, rfl⟩ := hl
    refine ((hC w hw.inv).index ⟨s.toArray⟩ ⟨t.toArray⟩ (by simpa [ByteArray.size] using hn)).mono ?_
    rintro e w' ⟨rfl, hb⟩
    exact ⟨j, _, trans_below hw hb, by simp only [VR]; rw [idxF_zero], rfl⟩
  · simp at h

theorem strsOf_sound {j : JM} : ∀ {cs : List AV} {xs : List (List UInt8)} {l : List Value}, strsOf cs = some xs → VRs j cs l → l = xs.map fun s => Value.string ⟨s.toArray⟩
  | [], xs, l, h, hl => by
    simp only [strsOf, Option.some.injEq] at h
    subst h
    exact hl
  | c :: cs, xs, l, h, hl => by
    unfold strsOf at h
    split at h
    · rename_i he; simp at he
    · rename_i s r he
      simp only [List.cons.injEq] at he
      obtain ⟨rfl, rfl⟩ := he
      split at h
      · rename_i l' hl'
        obtain rfl := Option.some.inj h
        obtain ⟨c, cs, rfl, rfl, h2⟩ := hl
        rw [strsOf_sound hl' h2]
        rfl
      · simp at h
    · simp at h

theorem join_calls (hC : ∀ w, Home.I w → LibC P L w) {callF : CallF} {n : Nat} {args : List AV} {H H' : Heap} {v : AV} (hev : evJoin callF n args H = some (v, H')) :
    H' = H ∧ ∀ (j : JM) (w : World) (l : List Value), WR j H w → VRs j args l → Calls P L.join l.toArray w (FnPost j H w v H') := by
  unfold evJoin at hev
  split at hev <;> (try simp at hev; done)
  · rename_i sep
    simp only [Option.some.injEq, Prod.mk.injEq] at hev
    obtain ⟨rfl, rfl⟩ := hev
    refine ⟨rfl, fun j w l hw hl => ?_⟩
    obtain ⟨c, cs, rfl, rfl, c2, cs2, rfl, rfl, rfl⟩ := hl
    refine ((hC w hw.inv).jnone none 0 ⟨sep.toArray⟩).mono ?_
    rintro e w' ⟨rfl, hb⟩
    exact ⟨j, _, trans_below hw hb, rfl, rfl⟩
  · rename_i b o len cap z sep
    split at hev <;> (try simp at hev; done)
    rename_i cs hcs
    split at hev <;> (try simp at hev; done)
    rename_i xs hxs
    have hn := (bif_some hev).1
    rw [hn, cond_true] at hev
    simp only [Option.some.injEq, Prod.mk.injEq] at hev
    obtain ⟨rfl, rfl⟩ := hev
    simp only [Bool.and_eq_true, decide_eq_true_eq, Nat.beq_eq] at hn
    obtain ⟨⟨rfl, hlen⟩, hmax⟩ := hn
    refine ⟨rfl, fun j w l hw hl => ?_⟩
    obtain ⟨c, cs1, rfl, hsl, c2, cs2, rfl, rfl, rfl⟩ := hl
    obtain ⟨loc, cap', hj, hle, hext, hcap, he⟩ := hsl
    obtain ⟨l0, hl0, _, hcell⟩ := load_sound (P := P) hw hcs hj
    have hl0' := strsOf_sound hxs hl0
    have hlc : cs.length = len := by
      obtain ⟨Lc, hLc, hbd, rfl⟩ := loadAt_some hcs
      simp; omega
    have hxl : xs.length = len := by
      rw [← hlc, ← VRs.length hl0, hl0', List.length_map]
    have hmap : (xs.map fun s => (⟨s.toArray⟩ : ByteArray)).map (fun x => x.data.toList) = xs := by
      rw [List.map_map]
      exact (List.map_congr_left (fun s _ => rfl)).trans (List.map_id xs)
    rcases he with rfl | ⟨h0, a, rfl⟩
    · have hblk : loc.blk < w.heap.size := by
        obtain ⟨Lc, hLc, hbd, _⟩ := loadAt_some hcs
        obtain ⟨loc', hj', hlt, _⟩ := hw.cell b Lc hLc
        rw [hj] at hj'
        obtain rfl := Option.some.inj hj'
        exact hlt
      have key := (hC w hw.inv).join loc.blk (loc.off + o) cap' (xs.map fun s => ⟨s.toArray⟩) ⟨sep.toArray⟩ (by
        intro i x hx
        refine hcell i (.string x) ?_
        rw [hl0', List.getElem?_map]
        rw [List.getElem?_map] at hx
        cases hxi : xs[i]? with
        | none => rw [hxi] at hx; simp at hx
        | some s =>
          rw [hxi] at hx
          simp only [Option.map_some, Option.some.injEq] at hx ⊢
          rw [hx]) hblk (by rw [List.length_map, hxl]; exact hlen) (by rw [List.length_map, hxl]; exact hle) (by rw [hmap]; exact hmax)
      rw [hmap, List.length_map, hxl] at key
      refine key.mono ?_
      rintro e w' ⟨rfl, hb⟩
      exact ⟨j, _, trans_below hw hb, rfl, rfl⟩
    · have : len = 0 := by omega
      subst this
      have hx0 : xs = [] := List.eq_nil_of_length_eq_zero hxl
      subst hx0
      refine ((hC w hw.inv).jnone (some a) cap' ⟨sep.toArray⟩).mono ?_
      rintro e w' ⟨rfl, hb⟩
      exact ⟨j, _, trans_below hw hb, rfl, rfl⟩

/-- strings.Join, and a function that ranges over a splitting iterator -/
def hxL (L : LibF) (ef : Nat) (R : Rgf) (I : Itr) (f : Nat) : Option (CallF → Nat → List AV → Heap → Option (AV × Heap)) :=
  bif f.beq L.join then some evJoin else bif f.beq ef then some (evEach R I) else none

theorem hxL_good {md : Nat → Nat} (hmix : P.follows .mixedOrders = true) (hE : LibEnter P L) (hC : ∀ w, Home.I w → LibC P L w) {ef : Nat} {R : Rgf} {I : Itr} (rk : Nonempty (RgOk P md R ef)) (ik : Nonempty (ItOk P md I)) (h0 : md ef = 0) (h1 : md L.join = 0) :
    GoodX P md (hxL L ef R I) := by
  obtain ⟨rk⟩ := rk
  obtain ⟨ik⟩ := ik
  intro f g hg
  unfold hxL at hg
  rw [cond_eq_ite] at hg
  split at hg
  · rename_i hf
    obtain rfl := Nat.eq_of_beq_eq_true hf
    obtain rfl := Option.some.inj hg
    refine ⟨h1, hE.join, fun callF _ _ _ n args H v H' hev => ?_⟩
    obtain ⟨rfl, h2⟩ := join_calls hC hev
    exact ⟨Mono.refl _, h2⟩
  · rw [cond_eq_ite] at hg
    split at hg
    · rename_i hf
      obtain rfl := Nat.eq_of_beq_eq_true hf
      obtain rfl := Option.some.inj hg
      exact each_good (f := f) hmix rk ik h0 f _ (by simp)
    · simp at hg

/-- strings.Join alone -/
def hxJ (L : LibF) (f : Nat) : Option (CallF → Nat → List AV → Heap → Option (AV × Heap)) := bif f.beq L.join then some evJoin else none

theorem hxJ_good {md : Nat → Nat} (hE : LibEnter P L) (hC : ∀ w, Home.I w → LibC P L w) (h1 : md L.join = 0) : GoodX P md (hxJ L) := by
  intro f g hg
  unfold hxJ at hg
  rw [cond_eq_ite] at hg
  split at hg
  · rename_i hf
    obtain rfl := Nat.eq_of_beq_eq_true hf
    obtain rfl := Option.some.inj hg
    refine ⟨h1, hE.join, fun callF _ _ _ n args H v H' hev => ?_⟩
    obtain ⟨rfl, h2⟩ := join_calls hC hev
    exact ⟨Mono.refl _, h2⟩
  · simp at hg

end
end Go.Ev
