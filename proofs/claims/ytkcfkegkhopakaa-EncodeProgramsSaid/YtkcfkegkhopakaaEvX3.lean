/- Code, functions: what the evaluator comes to, the loaded program comes to. -/
import Derived.Test.YtkcfkegkhopakaaEvX2
import Derived.WalkKit
import Derived.ProofKit
import Derived.OpenShut
import Derived.ShutString
import Derived.ChangeOld
import Derived.SizedLaws
import Derived.Carry
namespace Go.Ev
set_option linter.unusedVariables false
set_option linter.unusedSimpArgs false
open Go

section
variable {P : Program} {a : Act} {o : Oper} {j : JM} {H H' : Heap} {w : World} {e : Env} {v : AV} {callF : CallF}

theorem op_sound {p : AOp} (hc : cOp P o.op = some p) (hw : WR j H w) (hE : ER j e a.tmps) (hr : p.run callF e H = some (v, H')) :
    Does P a o j H w v H' ∨ ∃ f vs l, callF f vs H = some (v, H') ∧ VRs j vs l ∧ (execOp a.eval o).run P w = (callFunc f l.toArray).run P w := by
  cases ho : o.op <;> rw [ho] at hc
  case move x => exact .inl (does_move (.inl ho) hc hw hE hr)
  case assign x => exact .inl (does_move (.inr ho) hc hw hE hr)
  case pick c x y => exact .inl (does_pick ho hc hw hE hr)
  case unOp op t x => exact .inl (does_un ho hc hw hE hr)
  case binOp op t x y t' => exact .inl (does_bin ho hc hw hE hr)
  case convert s d x => exact .inl (does_conv ho hc hw hE hr)
  case nilCheck x => exact .inl (does_nilck ho hc hw hE hr)
  case fieldAddr s x f => exact .inl (does_faddr ho hc hw hE hr)
  case indexAddr t x i => exact .inl (does_iaddr ho hc hw hE hr)
  case field s x f => exact .inl (does_field ho hc hw hE hr)
  case index t x i => exact .inl (does_index ho hc hw hE hr)
  case load t x => exact .inl (does_load ho hc hw hE hr)
  case store t x y => exact .inl (does_store ho hc hw hE hr)
  case alloc t => exact .inl (does_alloc ho hc hw hr)
  case box t x => exact .inl (does_box ho hc hw hE hr)
  case build t ps => exact .inl (does_build ho hc hw hE hr)
  case buildSlice t n ps => exact .inl (does_buildSl ho hc hw hE hr)
  case makeSlice t l c => exact .inl (does_mkSl ho hc hw hE hr)
  case slice t x lo hi mx => exact .inl (does_slice ho hc hw hE hr)
  case extract x k => exact .inl (does_extract ho hc hw hE hr)
  case makeFunc fn first captured =>
    cases fn
    case func f => exact .inl (does_mkfn ho hc hw hE hr)
    all_goals simp [cOp] at hc
  case call c =>
    simp only [cOp, cCall] at hc
    split at hc
    · -- a function by its name
      rename_i f hcal
      simp only [Option.map_eq_some_iff] at hc
      obtain ⟨xs, hxs, rfl⟩ := hc
      simp only [AOp.run] at hr
      split at hr
      · rename_i vs hvs
        refine .inr ⟨f, vs, _, hr, opds_sound hE hxs hvs, ?_⟩
        simp only [execOp, ho, resolve, hcal, Act.eval, Deferred.ofValue, invoke, Sem.run_bind, Sem.run_pure, Result.andThen_ok]
        congr 2
        simp [← Array.toList_map]
      · simp at hr
    · rename_i t hcal
      simp only [Option.map_eq_some_iff] at hc
      obtain ⟨xs, hxs, rfl⟩ := hc
      obtain ⟨u, hu, h1⟩ := on1_some hr
      have hf : VR j u (a.eval (.tmp t)) := opd_sound hE (x := .tmp t) rfl hu
      cases u <;> (try simp at h1; done)
      rename_i f first captured
      simp only at h1
      split at h1
      · rename_i vs hvs
        obtain ⟨l, m, he, hl, hm⟩ := hf
        refine .inr ⟨f, _, l ++ (c.args.toList.map a.eval) ++ m, h1, VRs.append (VRs.append hl (opds_sound hE hxs hvs)) hm, ?_⟩
        simp only [execOp, ho, resolve, hcal, he, Deferred.ofValue, invoke, Sem.run_bind, Sem.run_pure, Result.andThen_ok]
        congr 2
        simp [← Array.toList_map]
      · simp at h1
    · simp at hc
    · simp at hc
    · rename_i b hcal
      left
      split at hc
      · rename_i x t hargs hat
        exact does_len ho hcal hargs hat hc hw hE hr
      · rename_i x y t u hargs hat
        split at hc
        · rename_i el q xa ya hel hu hx hy
          simp only [Option.bind_eq_some_iff] at hc
          obtain ⟨s, hs, z, hz, hc⟩ := hc
          obtain ⟨⟨h0, h0z, hzv⟩, hc⟩ := if_some hc
          exact does_append ho hcal hargs hat hel (.inl ⟨_, hu⟩) hs hz h0 h0z hzv hx hy (Option.some.inj hc).symm hw hE hr
        · rename_i el xa ya hel hu hx hy
          simp only [Option.bind_eq_some_iff] at hc
          obtain ⟨s, hs, z, hz, hc⟩ := hc
          obtain ⟨⟨h0, h0z, hzv⟩, hc⟩ := if_some hc
          exact does_append ho hcal hargs hat hel (.inr hu) hs hz h0 h0z hzv hx hy (Option.some.inj hc).symm hw hE hr
        · simp at hc
      · rename_i x y t u hargs hat
        split at hc
        · rename_i el xa ya hel hx hy
          simp only [Option.bind_eq_some_iff] at hc
          obtain ⟨s, hs, hc⟩ := hc
          obtain ⟨h0, hc⟩ := if_some hc
          exact does_copy ho hcal hargs hat hel hs hx hy (Option.some.inj hc).symm hw hE hr
        · simp at hc
      · simp only [Option.map_eq_some_iff] at hc
        obtain ⟨xs, hxs, rfl⟩ := hc
        exact does_minmax (mx := false) ho (by simpa using hcal) hxs rfl hw hE hr
      · simp only [Option.map_eq_some_iff] at hc
        obtain ⟨xs, hxs, rfl⟩ := hc
        exact does_minmax (mx := true) ho (by simpa using hcal) hxs rfl hw hE hr
      · simp at hc
  all_goals simp [cOp] at hc

/-- what a call of the evaluator's says of the loaded function -/
def FnPost (j : JM) (H : Heap) (w : World) (v : AV) (H' : Heap) (en : Ending) (w' : World) : Prop :=
  ∃ j' c, Trans j H w j' H' w' ∧ VR j' v c ∧ en = .returned c

def CallOk (P : Program) (callF : CallF) : Prop := ∀ f vs H v H', callF f vs H = some (v, H') → ∀ j w l, WR j H w → VRs j vs l →
  (∀ w, (callFunc f l.toArray).run P w = .ok (.enter f l.toArray) w) ∧ Calls P f l.toArray w (FnPost j H w v H')

/-- the state after an instruction -/
structure St (j : JM) (nt : Nat) (e : Env) (a : Act) : Prop where
  er : ER j e a.tmps
  size : nt ≤ a.tmps.size
  defers : a.defers = []

theorem St.put {nt : Nat} {dst : Option Nat} {c : Value} (hs : St j nt e a) (hd : (match dst with | some d => decide (d < nt) | none => true) = true) (hv : VR j v c) : St j nt (putE e dst v) (a.put dst c) := by
  cases dst with
  | none => exact hs
  | some d =>
    simp only [decide_eq_true_eq] at hd
    have hsz := hs.size
    refine ⟨fun t u hu => ?_, by simpa [Act.put] using hs.size, hs.defers⟩
    rw [lk_put] at hu
    simp only [Option.some.injEq] at hu
    simp only [Act.put, Array.getD_eq_getD_getElem?]
    split at hu
    · rename_i hdt
      obtain rfl := Option.some.inj hu
      subst hdt
      rw [Array.getElem?_setIfInBounds_self]
      rw [if_pos (by omega)]
      exact hv
    · rename_i hdt
      rw [Array.getElem?_setIfInBounds_ne hdt]
      have := hs.er t u hu
      rwa [Array.getD_eq_getD_getElem?] at this

theorem St.mono {nt : Nat} {j' : JM} (h : Ext j j') (hs : St j nt e a) : St j' nt e a := ⟨hs.er.mono h, hs.size, hs.defers⟩

theorem ins_sound (hcall : CallOk P callF) {nt : Nat} {ops : Array Oper} {i : AIns} {e1 : Env} {Q : Exit → Act → World → Prop} {K : Act → World → Prop} (hc : cIns P nt ops o = some i) (hw : WR j H w) (hs : St j nt e a)
    (hr : i.step callF e H = some (e1, H')) (hK : ∀ j' a' w', Trans j H w j' H' w' → St j' nt e1 a' → K a' w') :
    if Region.wanted o (yielded ops a.tmps) then o.wp P a w K Q else K (a.put o.dst undef) w := by
  unfold cIns at hc
  split at hc
  · simp at hc
  rename_i p hp
  obtain ⟨hd, hc⟩ := if_some hc
  have hwant : ∀ b, i.wanted e = some b → i.dst = o.dst ∧ i.op = p ∧ Region.wanted o (yielded ops a.tmps) = b := by
    intro b hb
    split at hc
    · rename_i hg
      obtain rfl := Option.some.inj hc
      simp only [AIns.wanted, Option.some.injEq] at hb
      subst hb
      exact ⟨rfl, rfl, by simp [Region.wanted, hg]⟩
    · rename_i jj want hg
      split at hc
      · rename_i t ht
        obtain ⟨hlt, hc⟩ := if_some hc
        obtain rfl := Option.some.inj hc
        refine ⟨rfl, rfl, ?_⟩
        simp only [AIns.wanted] at hb
        have hsz := hs.size
        have htl : t < a.tmps.size := Nat.lt_of_lt_of_le hlt hsz
        have hget : a.tmps[t]? = some (a.tmps.getD t undef) := by
          rw [Array.getD_eq_getD_getElem?, Array.getElem?_eq_getElem htl]; rfl
        simp only [Region.wanted, hg, yielded, ht, Option.bind_some, hget]
        split at hb
        · rename_i x hx
          have := hs.er t _ hx
          simp only [VR] at this
          rw [this]
          simp only [Option.some.injEq] at hb
          subst hb
          cases x <;> cases want <;> rfl
        · rename_i x hx
          have := hs.er t _ hx
          simp only [VR] at this
          rw [this]
          simp only [Option.some.injEq] at hb
          subst hb
          cases x <;> cases want <;> rfl
        · rename_i u hnb hnb2 hx
          have := hs.er t _ hx
          simp only [Option.some.injEq] at hb
          subst hb
          cases u with
          | bool x => exact absurd rfl (hnb x)
          | symb x => exact absurd rfl (hnb2 x)
          | sym k n lo hi => obtain ⟨e', _⟩ := this; rw [e']; rfl
          | ptr b off => obtain ⟨_, _, e'⟩ := this; rw [e']; rfl
          | sl b off ln cap size => obtain ⟨_, _, _, _, _, _, e' | ⟨_, _, e'⟩⟩ := this <;> rw [e'] <;> rfl
          | agg cs => obtain ⟨_, e', _⟩ := this; rw [e']; rfl
          | tup cs => obtain ⟨_, e', _⟩ := this; rw [e']; rfl
          | fn f x y => obtain ⟨_, _, e', _⟩ := this; rw [e']; rfl
          | iface t v => obtain ⟨_, e', _⟩ := this; rw [e']; rfl
          | _ => simp only [VR] at this; rw [this]; rfl
        · simp at hb
      · simp at hc
  obtain ⟨v, hv, rfl⟩ := step_val.1 hr
  unfold AIns.val at hv
  split at hv
  · rename_i hwt
    obtain ⟨h1, h2, h3⟩ := hwant _ hwt
    rw [if_pos h3]
    rw [h2] at hv
    rcases op_sound hp hw hs.er hv with ⟨j', c, w', htr, hvr, hrun⟩ | ⟨f, vs, l, hcf, hvs, hrun⟩
    · have hst : St j' nt (putE e i.dst v) (a.put o.dst c) := by rw [h1]; exact (hs.mono htr.ext).put hd hvr
      unfold Oper.wp
      rcases hrun with hrun | ⟨hrun, rfl⟩
      · rw [hrun]; exact hK _ _ _ htr hst
      · rw [hrun]; exact hK _ _ _ htr hst
    · obtain ⟨h4, h5⟩ := hcall f vs H v H' hcf j w l hw hvs
      unfold Oper.wp
      rw [hrun, h4 w]
      refine h5.mono ?_
      rintro en w' ⟨j', c, htr, hvr, rfl⟩
      have hst : St j' nt (putE e i.dst v) (a.put o.dst c) := by rw [h1]; exact (hs.mono htr.ext).put hd hvr
      exact hK _ _ _ htr hst
  · rename_i hwt
    obtain ⟨h1, h2, h3⟩ := hwant _ hwt
    rw [if_neg (by simp [h3])]
    simp only [Option.some.injEq, Prod.mk.injEq] at hv
    obtain ⟨rfl, rfl⟩ := hv
    exact hK _ _ _ (Trans.refl hw) (by rw [h1]; exact hs.put hd ⟨[], rfl, rfl⟩)
  · simp at hv

theorem inss_length {nt : Nat} {ops : Array Oper} : ∀ {l : List Oper} {is : List AIns}, cInss P nt ops l = some is → is.length = l.length
  | [], is, h => by simp only [cInss, Option.some.injEq] at h; subst h; rfl
  | o :: l, is, h => by
    simp only [cInss] at h
    split at h
    · split at h
      · rename_i h2
        obtain rfl := Option.some.inj h
        simp [inss_length h2]
      · simp at h
    · simp at h

theorem inss_get {nt : Nat} {ops : Array Oper} : ∀ {l : List Oper} {is : List AIns}, cInss P nt ops l = some is → ∀ (k : Nat) (i : AIns), is[k]? = some i → ∃ o, l[k]? = some o ∧ cIns P nt ops o = some i
  | [], is, h, k, i, hk => by simp only [cInss, Option.some.injEq] at h; subst h; simp at hk
  | o :: l, is, h, k, i, hk => by
    simp only [cInss] at h
    split at h
    · rename_i i0 h1
      split at h
      · rename_i is' h2
        obtain rfl := Option.some.inj h
        cases k with
        | zero => simp only [List.getElem?_cons_zero, Option.some.injEq] at hk; subst hk; exact ⟨o, rfl, h1⟩
        | succ k => simpa using inss_get h2 k i (by simpa using hk)
      · simp at h
    · simp at h

/-- a region in the text's order -/
theorem region_sound (hcall : CallOk P callF) {nt : Nat} {ops : Array Oper} {Q : Exit → Act → World → Prop} : ∀ {l : List Oper} {is : List AIns} {e e' : Env} {a : Act} {j : JM} {H H' : Heap} {w : World}, cInss P nt ops l = some is → WR j H w → St j nt e a →
    runIns callF is e H = some (e', H') → (∀ j' a' w', Trans j H w j' H' w' → St j' nt e' a' → Q .normal a' w') → wpList P ops Q l a w
  | [], is, e, e', a, j, H, H', w, h, hw, hs, hr, hQ => by
    simp only [cInss, Option.some.injEq] at h
    subst h
    simp only [runIns, Option.some.injEq, Prod.mk.injEq] at hr
    obtain ⟨rfl, rfl⟩ := hr
    exact hQ j a w (Trans.refl hw) hs
  | o :: l, is, e, e', a, j, H, H', w, h, hw, hs, hr, hQ => by
    simp only [cInss] at h
    split at h
    · rename_i i0 h1
      split at h
      · rename_i is' h2
        obtain rfl := Option.some.inj h
        simp only [runIns] at hr
        split at hr
        · rename_i e1 H1 hst
          refine wpList_step (fun K hK => ?_)
          refine ins_sound hcall h1 hw hs hst (fun j' a' w' htr hs' => hK a' w' ?_)
          exact region_sound hcall h2 htr.wr hs' hr (fun j2 a2 w2 htr2 hs2 => hQ j2 a2 w2 (htr.trans htr2) hs2)
        · simp at hr
      · simp at h
    · simp at h

end
end Go.Ev

/- Regions whose order is open; code; functions. -/

namespace Go.Ev
set_option linter.unusedVariables false
set_option linter.unusedSimpArgs false
open Go

instance : Inhabited AIns := ⟨⟨none, none, .lenC 0⟩⟩

section
variable {P : Program} {callF : CallF} {md : Nat → Nat}

theorem getD_agree (l : Array Bool) (k : Nat) (h : k < l.size) (a b : Bool) : l.getD k a = l.getD k b := by
  simp [h]

theorem listed_of_mask {n : Nat} {deps : List (List Nat)} {listed : Nat → Bool} (hlen : deps.length = n) (hlt : ∀ (i : Nat) (l : List Nat), deps[i]? = some l → ∀ d ∈ l, d < i)
    (hcl : ∀ (k : Nat), listed k = true → ∀ (l : List Nat), deps[k]? = some l → ∀ d ∈ l, listed d = true) (p : Nat) :
    ∀ (i : Nat) (l : List Nat), deps[i]? = some l → (∀ d ∈ l, listed d = true) → ((masks deps []).getD i 0).testBit p = true → listed p = true := by
  intro i
  induction i using Nat.strongRecOn with
  | _ i ih =>
    intro l hl hall hb
    obtain ⟨d, hd, h⟩ := masks_spec deps [] i p l hl (fun d hd => by simpa using hlt i l hl d hd) (by simpa using hb)
    rcases h with rfl | h
    · exact hall _ hd
    · have hdi := hlt i l hl d hd
      have hin : i < deps.length := by
        rcases Nat.lt_or_ge i deps.length with h' | h'
        · exact h'
        · rw [List.getElem?_eq_none h'] at hl; simp at hl
      have hdl : deps[d]? = some deps[d] := List.getElem?_eq_getElem (by omega)
      exact ih d hdi _ hdl (hcl d (hall d hd) _ hdl) h

theorem any_sound (hcall : CallOk P callF) (hmd : CallCls callF md) (hmo : CallMono callF) {conf : List Nat} {h0 : Heap} {nt : Nat} {ops : Array Oper} {is : List AIns} {Q : Exit → Act → World → Prop}
    (hc : cInss P nt ops ops.toList = some is) (hok : drawOkD md conf is (ops.toList.map depsOf) = true) :
    ∀ (m : Nat) (L : List Nat) (listed : Array Bool) {e e' : Env} {a : Act} {j : JM} {H H' : Heap} {w : World}, L.length = m → listed.size = ops.size →
      L = (List.range ops.size).filter (fun k => !listed.getD k true) →
      (∀ (k : Nat), listed.getD k false = true → ∀ (l : List Nat), (ops.toList.map depsOf)[k]? = some l → ∀ d ∈ l, listed.getD d false = true) →
      WR j H w → St j nt e a → runIns callF (L.map fun k => is.getD k default) e H = some (e', H') → h0.next ≤ H.next → OkConf conf h0 e' H' → Stays conf (L.map fun k => is.getD k default) →
      (∀ e'' j' a' w', Eqv e' e'' → Trans j H w j' H' w' → St j' nt e'' a' → Q .normal a' w') → wpAny P .any ops Q m listed a w := by
  have hlen := inss_length hc
  simp only [Array.length_toList] at hlen
  have hdl : (ops.toList.map depsOf).length = ops.size := by simp
  have hspec := fun k hk => allBelow_spec hok k hk
  have hlt : ∀ (i : Nat) (l : List Nat), (ops.toList.map depsOf)[i]? = some l → ∀ d ∈ l, d < i := by
    intro i l hl d hd
    have hi : i < is.length := by
      rcases Nat.lt_or_ge i is.length with h' | h'
      · exact h'
      · rw [List.getElem?_eq_none (by omega)] at hl; simp at hl
    have := hspec i hi
    simp only [Bool.and_eq_true, List.getD, hl, Option.getD_some, List.all_eq_true, Nat.blt_eq] at this
    exact this.1 d hd
  have hdeps : ∀ (i : Nat) (o : Oper), ops[i]? = some o → (ops.toList.map depsOf)[i]? = some (depsOf o) := by
    intro i o ho
    rw [List.getElem?_map, Array.getElem?_toList, ho]
    rfl
  have hsorted : ∀ listed : Array Bool, ((List.range ops.size).filter (fun k => !listed.getD k true)).Pairwise (· < ·) := fun listed => (List.pairwise_lt_range).filter _
  have hready : ∀ listed : Array Bool, Region.ready .any ops listed = ((List.range ops.size).filter (fun k => !listed.getD k true)).filter (fun i => ((ops[i]?).map (·.after.all fun e => !Region.binds .any e || listed.getD e.on false)).getD false) := by
    intro listed
    unfold Region.ready
    rw [List.filter_filter]
    congr 1
    funext i
    rw [Bool.and_comm]
  have hq : ∀ (listed : Array Bool) (i : Nat) (o : Oper), ops[i]? = some o → (((ops[i]?).map (·.after.all fun e => !Region.binds .any e || listed.getD e.on false)).getD false = true ↔ ∀ d ∈ depsOf o, listed.getD d false = true) := by
    intro listed i o ho
    simp only [ho, Option.map_some, Option.getD_some, depsOf, List.mem_map, List.mem_filter, Array.mem_toList_iff, Array.all_eq_true_iff_forall_mem, Bool.or_eq_true, Bool.not_eq_true']
    constructor
    · rintro h d ⟨ed, ⟨h1, h2⟩, rfl⟩
      rcases h ed h1 with h3 | h3
      · rw [h2] at h3; simp at h3
      · exact h3
    · intro h ed h1
      cases hb : Region.binds .any ed
      · exact .inl rfl
      · exact .inr (h ed.on ⟨ed, ⟨h1, hb⟩, rfl⟩)
  intro m
  induction m with
  | zero =>
    intro L listed e e' a j H H' w hL hsz hLe hcl hw hs hr hn0 hcf hsty hQ
    have hnil : L = [] := List.eq_nil_of_length_eq_zero hL
    rw [hnil] at hr
    simp only [List.map_nil, runIns, Option.some.injEq, Prod.mk.injEq] at hr
    obtain ⟨rfl, rfl⟩ := hr
    refine ⟨?_, hQ e j a w (Eqv.refl _) (Trans.refl hw) hs⟩
    rw [hready, ← hLe, hnil]
    rfl
  | succ m ih =>
    intro L listed e e' a j H H' w hL hsz hLe hcl hw hs hr hn0 hcf hsty hQ
    refine ⟨fun hemp => ?_, fun i hi => ?_⟩
    · -- something is always ready
      exfalso
      cases hLc : L with
      | nil => simp [hLc] at hL
      | cons l0 rest =>
        have hmem : l0 ∈ (List.range ops.size).filter (fun k => !listed.getD k true) := by rw [← hLe, hLc]; simp
        have hl0 := (List.mem_filter.1 hmem).1
        rw [List.mem_range] at hl0
        have ho : ops[l0]? = some ops[l0] := Array.getElem?_eq_getElem hl0
        have hsrt := hsorted listed
        rw [← hLe, hLc, List.pairwise_cons] at hsrt
        have hin : l0 ∈ Region.ready .any ops listed := by
          rw [hready]
          refine List.mem_filter.2 ⟨hmem, (hq listed l0 _ ho).2 (fun d hd => ?_)⟩
          have hdl0 := hlt l0 _ (hdeps l0 _ ho) d hd
          rw [getD_agree listed d (by omega) false true]
          cases hbv : listed.getD d true with
          | true => rfl
          | false =>
            have : d ∈ L := by rw [hLe]; exact List.mem_filter.2 ⟨List.mem_range.2 (by omega), by simp [hbv]⟩
            rw [hLc] at this
            rcases List.mem_cons.1 this with h | h
            · omega
            · have := hsrt.1 d h; omega
        rw [hemp] at hin
        simp at hin
    · rw [hready, ← hLe] at hi
      obtain ⟨hiL, hiq⟩ := List.mem_filter.1 hi
      obtain ⟨pre, post, hsplit⟩ := List.append_of_mem hiL
      have hir : i < ops.size := by
        have : i ∈ (List.range ops.size).filter (fun k => !listed.getD k true) := by rw [← hLe]; exact hiL
        exact List.mem_range.1 (List.mem_filter.1 this).1
      have ho : ops[i]? = some ops[i] := Array.getElem?_eq_getElem hir
      have hdi := (hq listed i _ ho).1 hiq
      have hsrt := hsorted listed
      rw [← hLe, hsplit, List.pairwise_append, List.pairwise_cons] at hsrt
      have hpre : ∀ p ∈ pre, p < i := fun p hp => hsrt.2.2 p hp i (by simp)
      have hpost : ∀ p ∈ post, i < p := fun p hp => hsrt.2.1.1 p hp
      have hcomm : ∀ x ∈ pre.map (fun k => is.getD k default), commutes md x (is.getD i default) = true ∨ softly conf x (is.getD i default) = true := by
        intro x hx
        obtain ⟨p, hp, rfl⟩ := List.mem_map.1 hx
        have hpi := hpre p hp
        have h1 := hspec i (by omega)
        simp only [Bool.and_eq_true] at h1
        have h2 := allBelow_spec h1.2 p hpi
        simp only [Bool.or_eq_true] at h2
        rcases h2 with h2 | h2
        · exfalso
          have hlp := listed_of_mask (n := ops.size) (listed := fun k => listed.getD k false) hdl hlt hcl p i _ (hdeps i _ ho) hdi h2
          have : p ∈ (List.range ops.size).filter (fun k => !listed.getD k true) := by rw [← hLe, hsplit]; simp [hp]
          have := (List.mem_filter.1 this).2
          rw [getD_agree listed p (by omega) true false, hlp] at this
          simp at this
        · have hp1 : is[p]? = some is[p] := List.getElem?_eq_getElem (by omega)
          have hi1 : is[i]? = some is[i] := List.getElem?_eq_getElem (by omega)
          simp only [hp1, hi1] at h2
          simpa [List.getD, hp1, hi1, Bool.or_eq_true] using h2
      rw [hsplit, List.map_append, List.map_cons] at hr hsty
      obtain ⟨e1, H1, e'', hst, hrest, heq⟩ := bubbleD hmd hmo hcomm hr hn0 hcf hsty
      have hil : i < is.length := by omega
      have hid : is.getD i default = is[i] := by simp [List.getD, List.getElem?_eq_getElem hil]
      rw [hid] at hst
      obtain ⟨o, ho', hci⟩ := inss_get hc i is[i] (List.getElem?_eq_getElem hil)
      rw [Array.getElem?_toList, ho] at ho'
      obtain rfl := Option.some.inj ho'
      have hL' : pre ++ post = (List.range ops.size).filter (fun k => !(listed.setIfInBounds i true).getD k true) := by
        have hf : (List.range ops.size).filter (fun k => !(listed.setIfInBounds i true).getD k true) = L.filter (fun k => k ≠ i) := by
          rw [hLe, List.filter_filter]
          congr 1
          funext k
          simp only [Array.getD_eq_getD_getElem?, Array.getElem?_setIfInBounds]
          by_cases hk : i = k
          · subst hk
            have hlt3 : i < listed.size := by omega
            simp [hlt3]
          · simp [hk, Ne.symm hk]
        rw [hf, hsplit, List.filter_append, List.filter_cons]
        simp only [ne_eq, not_true_eq_false, decide_false, Bool.false_eq_true, if_false]
        rw [List.filter_eq_self.2 (fun p hp => by have := hpre p hp; simp; omega), List.filter_eq_self.2 (fun p hp => by have := hpost p hp; simp; omega)]
      have hcl' : ∀ (k : Nat), (listed.setIfInBounds i true).getD k false = true → ∀ (l : List Nat), (ops.toList.map depsOf)[k]? = some l → ∀ d ∈ l, (listed.setIfInBounds i true).getD d false = true := by
        intro k hk l hl d hd
        have up : ∀ d, listed.getD d false = true → (listed.setIfInBounds i true).getD d false = true := by
          intro d hd
          simp only [Array.getD_eq_getD_getElem?, Array.getElem?_setIfInBounds] at hd ⊢
          by_cases hid : i = d
          · subst hid
            have hlt3 : i < listed.size := by omega
            simp [hlt3]
          · simpa [hid] using hd
        by_cases hki : k = i
        · subst hki
          rw [hdeps k _ ho] at hl
          obtain rfl := Option.some.inj hl
          exact up d (hdi d hd)
        · refine up d (hcl k ?_ l hl d hd)
          simp only [Array.getD_eq_getD_getElem?, Array.getElem?_setIfInBounds] at hk ⊢
          simpa [Ne.symm hki] using hk
      have hlen' : (pre ++ post).length = m := by
        have := hL
        rw [hsplit] at this
        simp at this ⊢
        omega
      have key := ins_sound (Q := Q) (K := wpAny P .any ops Q m (listed.setIfInBounds i true)) hcall hci hw hs hst (fun j' a' w' htr hs' =>
        ih (pre ++ post) (listed.setIfInBounds i true) hlen' (by simpa using hsz) hL' hcl' htr.wr hs' (by rw [List.map_append]; exact hrest) (Nat.le_trans hn0 htr.next) (hcf.eqv heq) (by rw [List.map_append]; exact hsty.remove)
          (fun e3 j3 a3 w3 h3 htr3 hs3 => hQ e3 j3 a3 w3 (heq.trans h3) (htr.trans htr3) hs3))
      unfold wpOp
      simp only [ho]
      split
      · rename_i hwant; rw [if_pos hwant] at key; exact .inl key
      · rename_i hwant; rw [if_neg hwant] at key; exact key


/-! ### code -/
def exRel : AEx → Exit → Prop
  | .normal, .normal => True
  | .exit a, .exit b => a = b
  | .ret, .ret => True
  | _, _ => False

def CPost (j : JM) (H : Heap) (w : World) (nt : Nat) (ex : AEx) (e' : Env) (H' : Heap) (x : Exit) (a' : Act) (w' : World) : Prop :=
  exRel ex x ∧ ∃ j', Trans j H w j' H' w' ∧ St j' nt e' a'

/-- the code, in the evaluator's form -/
def cC (P : Program) (md : Nat → Nat) (nt : Nat) : Code → Option ACode
  | .skip => some .skip
  | .region _ ops draw => match cInss P nt ops ops.toList with
    | some is => if draw then
        let deps := ops.toList.map depsOf
        let conf := confOf md is deps
        if drawOkD md conf is deps && staysB conf is then some (if conf.isEmpty then .region is else .regionD is conf) else none
      else some (.region is)
    | none => none
  | .seq a b => match cC P md nt a, cC P md nt b with
    | some a, some b => some (.seq a b)
    | _, _ => none
  | .cond c a b => match cOpd c, cC P md nt a, cC P md nt b with
    | some c, some a, some b => some (.cond c a b)
    | _, _, _ => none
  | .block id b => match cC P md nt b with
    | some b => some (.block id b)
    | none => none
  | .loop b => match cC P md nt b with
    | some b => some (.loop b)
    | none => none
  | .exit id => some (.exit id)
  | .scope b => cC P md nt b
  | .label _ => some .skip
  | .ret => some .ret
  | _ => none

theorem rounds_mono {b : Code} {Q Q' : Exit → Act → World → Prop} (hq : ∀ x a w, Q x a w → Q' x a w) : ∀ {n : Nat} {a : Act} {w : World}, Code.rounds P b Q n a w → Code.rounds P b Q' n a w
  | 0, _, _, h => h.elim
  | n + 1, a, w, h => by
    rw [rounds_succ] at h ⊢
    refine wp_mono h ?_
    intro x a1 w1 h1
    cases x
    case normal => exact rounds_mono hq h1
    all_goals exact hq _ _ _ h1

theorem code_sound (hcall : CallOk P callF) (hmd : CallCls callF md) (hmo : CallMono callF) (hmix : P.follows .mixedOrders = true) {fuel nt : Nat} : ∀ {c : Code} {c' : ACode} {e e' : Env} {a : Act} {j : JM} {H H' : Heap} {w : World} {ex : AEx},
    cC P md nt c = some c' → WR j H w → St j nt e a → evC callF fuel c' e H = some (ex, e', H') → c.wp P (CPost j H w nt ex e' H') a w := by
  intro c
  induction c with
  | skip =>
    intro c' e e' a j H H' w ex hc hw hs hr
    simp only [cC, Option.some.injEq] at hc
    subst hc
    simp only [evC, Option.some.injEq, Prod.mk.injEq] at hr
    obtain ⟨rfl, rfl, rfl⟩ := hr
    exact wp_skip ⟨trivial, j, Trans.refl hw, hs⟩
  | label l =>
    intro c' e e' a j H H' w ex hc hw hs hr
    simp only [cC, Option.some.injEq] at hc
    subst hc
    simp only [evC, Option.some.injEq, Prod.mk.injEq] at hr
    obtain ⟨rfl, rfl, rfl⟩ := hr
    exact wp_label ⟨trivial, j, Trans.refl hw, hs⟩
  | ret =>
    intro c' e e' a j H H' w ex hc hw hs hr
    simp only [cC, Option.some.injEq] at hc
    subst hc
    simp only [evC, Option.some.injEq, Prod.mk.injEq] at hr
    obtain ⟨rfl, rfl, rfl⟩ := hr
    exact wp_ret ⟨trivial, j, Trans.refl hw, hs⟩
  | exit id =>
    intro c' e e' a j H H' w ex hc hw hs hr
    simp only [cC, Option.some.injEq] at hc
    subst hc
    simp only [evC, Option.some.injEq, Prod.mk.injEq] at hr
    obtain ⟨rfl, rfl, rfl⟩ := hr
    exact wp_exit ⟨rfl, j, Trans.refl hw, hs⟩
  | region id ops draw =>
    intro c' e e' a j H H' w ex hc hw hs hr
    simp only [cC] at hc
    split at hc
    · rename_i is his
      have fin : ∀ (c'' : ACode), c'' = .region is → evC callF fuel c'' e H = some (ex, e', H') →
          runIns callF is e H = some (e', H') ∧ ex = .normal := by
        rintro _ rfl h
        simp only [evC] at h
        split at h
        · rename_i e1 h1 h2
          simp only [Option.some.injEq, Prod.mk.injEq] at h
          obtain ⟨rfl, rfl, rfl⟩ := h
          exact ⟨h2, rfl⟩
        · simp at h
      cases draw with
      | false =>
        simp only [Bool.false_eq_true, if_false, Option.some.injEq] at hc
        obtain ⟨h1, rfl⟩ := fin c' hc.symm hr
        refine wp_region_list (region_sound hcall his hw hs h1 (fun j' a' w' htr hs' => ⟨trivial, j', htr, hs'⟩))
      | true =>
        simp only [if_true] at hc
        obtain ⟨hok, hc⟩ := if_some hc
        rw [Bool.and_eq_true] at hok
        have hlen := inss_length his
        simp only [Array.length_toList] at hlen
        refine wp_region_any hmix ?_
        have hall : (List.range ops.size).map (fun k => is.getD k default) = is := by
          apply List.ext_getElem?
          intro i
          by_cases hi : i < is.length
          · rw [List.getElem?_map, List.getElem?_range (by omega), Option.map_some]
            simp [List.getD, List.getElem?_eq_getElem hi]
          · rw [List.getElem?_eq_none (by simp; omega), List.getElem?_eq_none (by omega)]
        have go : ∀ (conf : List Nat) (H1 H2 : Heap), drawOkD md conf is (ops.toList.map depsOf) = true → Stays conf is → WR j H1 { w with drawn := w.drawn + 1 } → runIns callF is e H1 = some (e', H2) → OkConf conf H1 e' H2 →
            (∀ j' w', Trans j H1 { w with drawn := w.drawn + 1 } j' H2 w' → Trans j H w j' H' w') → ex = .normal → wpAny P .any ops (CPost j H w nt ex e' H') ops.size (Array.replicate ops.size false) a { w with drawn := w.drawn + 1 } := by
          intro conf H1 H2 hk hst hwd h1 hcf htrans hex
          subst hex
          refine any_sound (e' := e') (H' := H2) (h0 := H1) (conf := conf) hcall hmd hmo his hk ops.size (List.range ops.size) (Array.replicate ops.size false) (by simp) (by simp) ?_ ?_ hwd hs ?_ (Nat.le_refl _) hcf ?_ ?_
          · rw [List.filter_eq_self.2]
            intro k hk
            rw [List.mem_range] at hk
            simp [hk]
          · intro k hk
            simp only [Array.getD_eq_getD_getElem?, Array.getElem?_replicate] at hk
            split at hk <;> simp at hk
          · rw [hall]; exact h1
          · rw [hall]; exact hst
          · intro e2 j' a' w' heq htr hs'
            exact ⟨trivial, j', htrans j' w' htr, ⟨fun t v hv => hs'.er t v ((heq t).symm.trans hv), hs'.size, hs'.defers⟩⟩
        have hwd : ∀ l, WR j (H.withLog l) { w with drawn := w.drawn + 1 } := fun l =>
          have h := hw.of_heap (w' := { w with drawn := w.drawn + 1 }) (Nat.le_refl _) (fun _ _ _ _ _ => rfl)
          ⟨h.dom, h.hdom, h.cell, h.own, h.apart⟩
        have hc := Option.some.inj hc
        split at hc
        · rename_i hemp
          obtain ⟨h1, hex⟩ := fin c' hc.symm hr
          have hnil : confOf md is (ops.toList.map depsOf) = [] := List.isEmpty_iff.1 hemp
          exact go [] H H' (by rw [← hnil]; exact hok.1) (by rw [← hnil]; exact stays_of hok.2) (hwd H.log) h1 (fun t ht => by simp at ht)
            (fun j' w' htr => ⟨htr.ext, htr.wr, htr.ro, htr.next, htr.os, htr.tape, htr.output, htr.size, htr.keep, htr.grow⟩) hex
        · subst hc
          simp only [evC] at hr
          split at hr
          · rename_i e1 h1 hrun
            obtain ⟨hck, hr⟩ := bif_some hr
            simp only [Option.some.injEq, Prod.mk.injEq] at hr
            obtain ⟨hex, rfl, rfl⟩ := hr
            exact go _ (H.withLog []) h1 hok.1 (stays_of hok.2) (hwd []) hrun (okConf_of rfl hck)
              (fun j' w' htr => ⟨htr.ext, ⟨htr.wr.dom, htr.wr.hdom, htr.wr.cell, htr.wr.own, htr.wr.apart⟩, htr.ro, htr.next, htr.os, htr.tape, htr.output, htr.size, htr.keep, htr.grow⟩) hex.symm
          · simp at hr
    · simp at hc
  | seq x y ihx ihy =>
    intro c' e e' a j H H' w ex hc hw hs hr
    simp only [cC] at hc
    split at hc
    · rename_i x' y' hx hy
      obtain rfl := Option.some.inj hc
      simp only [evC] at hr
      apply wp_seq
      split at hr
      · rename_i e1 h1 hx1
        refine wp_mono (ihx hx hw hs hx1) ?_
        rintro x1 a1 w1 ⟨hex, j1, htr, hs1⟩
        cases x1 <;> simp only [exRel] at hex
        refine wp_mono (ihy hy htr.wr hs1 hr) ?_
        rintro x2 a2 w2 ⟨hex2, j2, htr2, hs2⟩
        exact ⟨hex2, j2, htr.trans htr2, hs2⟩
      · rename_i hne
        refine wp_mono (ihx hx hw hs hr) ?_
        rintro x1 a1 w1 ⟨hex, j1, htr, hs1⟩
        cases x1 <;> cases ex <;> simp only [exRel] at hex
        · exact absurd hr (hne _ _)
        · exact ⟨hex, j1, htr, hs1⟩
        · exact ⟨trivial, j1, htr, hs1⟩
    · simp at hc
  | cond c x y ihx ihy =>
    intro c' e e' a j H H' w ex hc hw hs hr
    simp only [cC] at hc
    split at hc
    · rename_i c1 x' y' hc1 hx hy
      obtain rfl := Option.some.inj hc
      simp only [evC] at hr
      split at hr
      · rename_i t ht
        have hv := opd_sound hs.er hc1 ht
        simp only [VR] at hv
        cases t with
        | true => exact wp_cond_true hv (ihx hx hw hs hr)
        | false => exact wp_cond_false hv (ihy hy hw hs hr)
      · rename_i t ht
        have hv := opd_sound hs.er hc1 ht
        simp only [VR] at hv
        cases t with
        | true => exact wp_cond_true hv (ihx hx hw hs hr)
        | false => exact wp_cond_false hv (ihy hy hw hs hr)
      · simp at hr
    · simp at hc
  | block id b ih =>
    intro c' e e' a j H H' w ex hc hw hs hr
    simp only [cC] at hc
    split at hc
    · rename_i b' hb
      obtain rfl := Option.some.inj hc
      simp only [evC] at hr
      apply wp_block
      split at hr
      · rename_i id' e1 h1 hb1
        refine wp_mono (ih hb hw hs hb1) ?_
        rintro x1 a1 w1 ⟨hex, j1, htr, hs1⟩
        cases x1 <;> simp only [exRel] at hex
        subst hex
        simp only [cond_eq_ite, Nat.beq_eq] at hr
        simp only [Exit.inBlock]
        split at hr
        · rename_i hid
          simp only [Option.some.injEq, Prod.mk.injEq] at hr
          obtain ⟨rfl, rfl, rfl⟩ := hr
          rw [if_pos hid]
          exact ⟨trivial, j1, htr, hs1⟩
        · rename_i hid
          simp only [Option.some.injEq, Prod.mk.injEq] at hr
          obtain ⟨rfl, rfl, rfl⟩ := hr
          rw [if_neg hid]
          exact ⟨rfl, j1, htr, hs1⟩
      · rename_i hne
        refine wp_mono (ih hb hw hs hr) ?_
        rintro x1 a1 w1 ⟨hex, j1, htr, hs1⟩
        cases x1 <;> cases ex <;> simp only [exRel] at hex
        · exact ⟨trivial, j1, htr, hs1⟩
        · exact absurd hr (hne _ _ _)
        · exact ⟨trivial, j1, htr, hs1⟩
    · simp at hc
  | loop b ih =>
    intro c' e e' a j H H' w ex hc hw hs hr
    simp only [cC] at hc
    split at hc
    · rename_i b' hb
      obtain rfl := Option.some.inj hc
      simp only [evC] at hr
      refine wp_loop_rounds fuel ?_
      have key : ∀ (n : Nat) {e a j H w}, WR j H w → St j nt e a → loopN (fun e h => evC callF fuel b' e h) n e H = some (ex, e', H') → Code.rounds P b (CPost j H w nt ex e' H') n a w := by
        intro n
        induction n with
        | zero => intro e a j H w _ _ h; simp [loopN] at h
        | succ n ihn =>
          intro e a j H w hw hs h
          simp only [loopN] at h
          rw [rounds_succ]
          split at h
          · rename_i e1 h1 hb1
            refine wp_mono (ih hb hw hs hb1) ?_
            rintro x1 a1 w1 ⟨hex, j1, htr, hs1⟩
            cases x1 <;> simp only [exRel] at hex
            have := ihn htr.wr hs1 h
            refine rounds_mono ?_ this
            rintro x2 a2 w2 ⟨hex2, j2, htr2, hs2⟩
            exact ⟨hex2, j2, htr.trans htr2, hs2⟩
          · rename_i hne
            refine wp_mono (ih hb hw hs h) ?_
            rintro x1 a1 w1 ⟨hex, j1, htr, hs1⟩
            cases x1 <;> cases ex <;> simp only [exRel] at hex
            · exact absurd h (hne _ _)
            · exact ⟨hex, j1, htr, hs1⟩
            · exact ⟨trivial, j1, htr, hs1⟩
      exact key fuel hw hs hr
    · simp at hc
  | scope b ih =>
    intro c' e e' a j H H' w ex hc hw hs hr
    simp only [cC] at hc
    refine wp_scope_straight (wp_mono (ih hc hw hs hr) ?_)
    rintro x1 a1 w1 h
    cases x1
    case goto l => obtain ⟨hex, _⟩ := h; cases ex <;> simp [exRel] at hex
    all_goals exact h
  | goto l => intro c' e e' a j H H' w ex hc; simp [cC] at hc
  | refuse l => intro c' e e' a j H H' w ex hc; simp [cC] at hc
  | rangeFunc f p x y => intro c' e e' a j H H' w ex hc; simp [cC] at hc

end
end Go.Ev

/- Functions: what the evaluator answers, the loaded call answers. -/

namespace Go.Ev
set_option linter.unusedVariables false
set_option linter.unusedSimpArgs false
open Go

/-! ### results -/
def cRes (P : Program) : List ResultVar → Option (List (Nat × Option (Nat × Bool)))
  | [] => some []
  | .tmp t :: r => match cRes P r with
    | some rs => some ((t, none) :: rs)
    | none => none
  | .cell t ty :: r => match size? P ty, isAgg? P ty, cRes P r with
    | some n, some g, some rs => if g = true ∨ n = 1 then some ((t, some (n, g)) :: rs) else none
    | _, _, _ => none

section
variable {P : Program}

theorem res_sound {j : JM} {H : Heap} {w : World} {e : Env} {tmps : Array Value} (hw : WR j H w) (hE : ER j e tmps) : ∀ {l : List ResultVar} {rs : List (Nat × Option (Nat × Bool))} {vs : List AV}, cRes P l = some rs → resOf e H rs = some vs →
    ∃ cs, VRs j vs cs ∧ ((l.mapM fun
      | .tmp t => pure (tmps.getD t undef)
      | .cell a t => do loadVar t (← asAddr (tmps.getD a undef)) : Sem (List Value))).run P w = .ok cs w
  | [], rs, vs, h, hr => by
    simp only [cRes, Option.some.injEq] at h
    subst h
    simp only [resOf, Option.some.injEq] at hr
    subst hr
    exact ⟨[], rfl, by simp⟩
  | .tmp t :: l, rs, vs, h, hr => by
    simp only [cRes] at h
    split at h
    · rename_i rs' hrs
      obtain rfl := Option.some.inj h
      simp only [resOf] at hr
      split at hr
      · rename_i v hv
        split at hr
        · rename_i vs' hvs
          obtain rfl := Option.some.inj hr
          obtain ⟨cs, h1, h2⟩ := res_sound hw hE hrs hvs
          exact ⟨_, ⟨_, cs, rfl, hE t v hv, h1⟩, by simp only [List.mapM_cons, Sem.run_bind, Sem.run_pure, Result.andThen_ok, h2]⟩
        · simp at hr
      · simp at hr
    · simp at h
  | .cell t ty :: l, rs, vs, h, hr => by
    simp only [cRes] at h
    split at h
    · rename_i n g rs' hn hg hrs
      obtain ⟨hgn, h⟩ := if_some h
      obtain rfl := Option.some.inj h
      simp only [resOf] at hr
      split at hr
      · rename_i v hv
        split at hr
        · rename_i u hu
          split at hr
          · rename_i vs' hvs
            obtain rfl := Option.some.inj hr
            obtain ⟨cs, h1, h2⟩ := res_sound hw hE hrs hvs
            have hvr := hE t v hv
            cases v <;> (try simp at hu; done)
            rename_i b off
            obtain ⟨loc, hl, he⟩ := hvr
            simp only at hu
            split at hu
            · rename_i cs0 hcs0
              obtain ⟨l0, hvl, hrun, hcell⟩ := load_sound (P := P) hw hcs0 hl
              cases g with
              | true =>
                simp only [cond_true, Option.some.injEq] at hu
                subst hu
                have hrun1 : (do loadVar ty (← asAddr (tmps.getD t undef)) : Sem Value).run P w = .ok (.agg l0.toArray) w := by
                  simp only [Sem.run_bind, he, asAddr, Sem.run_pure, Result.andThen_ok, loadVar, run_isAgg hg, run_sizeOf hn, hrun, if_true]
                refine ⟨_, ⟨.agg l0.toArray, cs, rfl, ⟨l0, rfl, hvl⟩, h1⟩, ?_⟩
                rw [List.mapM_cons, Sem.run_bind]
                refine (congrArg (fun r : Result Value => r.andThen _) hrun1).trans ?_
                simp only [Result.andThen_ok, Sem.run_bind, h2, Sem.run_pure]
              | false =>
                simp only [cond_false] at hu
                split at hu
                · rename_i c0
                  simp only [Option.some.injEq] at hu
                  subst hu
                  obtain ⟨c, _, rfl, hvc, rfl⟩ := hvl
                  have := hcell 0 c rfl
                  simp only [Nat.add_zero] at this
                  have hrun1 : (do loadVar ty (← asAddr (tmps.getD t undef)) : Sem Value).run P w = .ok c w := by
                    simp only [Sem.run_bind, he, asAddr, Sem.run_pure, Result.andThen_ok, loadVar, run_isAgg hg, run_load, this, Bool.false_eq_true, if_false]
                  refine ⟨_, ⟨c, cs, rfl, hvc, h1⟩, ?_⟩
                  rw [List.mapM_cons, Sem.run_bind]
                  refine (congrArg (fun r : Result Value => r.andThen _) hrun1).trans ?_
                  simp only [Result.andThen_ok, Sem.run_bind, h2, Sem.run_pure]
                · simp at hu
            · simp at hu
          · simp at hr
        · simp at hr
      · simp at hr
    · simp at h

theorem results_sound {j : JM} {H : Heap} {w : World} {e : Env} {tmps : Array Value} (hw : WR j H w) (hE : ER j e tmps) {fn : Func} {rs : List (Nat × Option (Nat × Bool))} {vs : List AV}
    (h : cRes P fn.results.toList = some rs) (hr : resOf e H rs = some vs) : ∃ c, VR j (single vs) c ∧ (results fn tmps).run P w = .ok c w := by
  obtain ⟨cs, h1, h2⟩ := res_sound hw hE h hr
  have hlen := VRs.length h1
  refine ⟨if h : cs.toArray.size = 1 then cs.toArray[0] else .tuple cs.toArray, ?_, ?_⟩
  · unfold single
    split
    · obtain ⟨c, _, rfl, hv, rfl⟩ := h1
      simpa using hv
    · rename_i hne
      rw [dif_neg]
      · exact ⟨cs, rfl, h1⟩
      · intro hs
        simp only [List.size_toArray, hlen] at hs
        obtain ⟨v, rfl⟩ := List.length_eq_one_iff.1 hs
        exact hne v rfl
  · unfold results
    rw [Array.mapM_eq_mapM_toList]
    simp only [Sem.run_bind, Sem.run_map]
    exact congrArg (fun r : Result (List Value) => (r.andThen fun a w' => Result.ok a.toArray w').andThen fun a w' => Sem.run P (pure (if h : a.size = 1 then a[0] else Value.tuple a)) w') h2

/-! ### functions -/
def GoodF (P : Program) (md : Nat → Nat) (f : Nat) (F : AFunc) : Prop :=
  ∃ fn code, P.funcs[f]? = some fn ∧ fn.body = some code ∧ (fn.name == "runtime.NumGoroutine") = false ∧ cC P md fn.ntmps code = some F.body ∧ cRes P fn.results.toList = some F.results

def GoodT (P : Program) (md : Nat → Nat) (T : Nat → Option AFunc) : Prop := ∀ f F, T f = some F → F.mode = md f ∧ GoodF P md f F

theorem run_callFunc {f : Nat} {fn : Func} {code : Code} (hf : P.funcs[f]? = some fn) (hb : fn.body = some code) (hn : (fn.name == "runtime.NumGoroutine") = false) (args : Array Value) (w : World) :
    (callFunc f args).run P w = .ok (.enter f args) w := by
  simp [callFunc, hf, hb]
  simpa using hn

theorem lk_params : ∀ {args : List AV} {n t : Nat} {v : AV}, lk (params n args) t = some v → ∃ k, t = n + k ∧ args[k]? = some v
  | [], n, t, v, h => by simp [params, lk, Tr.get] at h
  | u :: args, n, t, v, h => by
    simp only [params, lk] at h
    rw [Tr.get_set _ _ _ _ _ (by omega)] at h
    split at h
    · rename_i hn; obtain rfl := Option.some.inj h; exact ⟨0, by omega, rfl⟩
    · obtain ⟨k, h1, h2⟩ := lk_params h; exact ⟨k + 1, by omega, by simpa using h2⟩

theorem body_sound {callF : CallF} {md : Nat → Nat} (hcall : CallOk P callF) (hmd : CallCls callF md) (hmo : CallMono callF) (hmix : P.follows .mixedOrders = true) {fuel f : Nat} {F : AFunc} (hF : GoodF P md f F)
    {j : JM} {H H' : Heap} {w : World} {args : List AV} {l : List Value} {v : AV} (hw : WR j H w) (hl : VRs j args l) (hr : evBody callF fuel F args H = some (v, H')) : Calls P f l.toArray w (FnPost j H w v H') := by
  obtain ⟨fn, code, hf, hb, hn, hc, hres⟩ := hF
  refine calls_of_wp hf hb ?_
  have hs : St j fn.ntmps (params 0 args) { tmps := l.toArray ++ Array.replicate (fn.ntmps - l.toArray.size) undef, defers := [] } := by
    refine ⟨fun t v hv => ?_, by simp; omega, rfl⟩
    obtain ⟨k, rfl, hk⟩ := lk_params hv
    obtain ⟨c, h1, h2⟩ := VRs.get hl k v hk
    have hkl : k < l.length := by
      rcases Nat.lt_or_ge k l.length with h | h
      · exact h
      · rw [List.getElem?_eq_none h] at h1; simp at h1
    rw [Nat.zero_add, Array.getD_eq_getD_getElem?, Array.getElem?_append_left (by simpa using hkl)]
    simp only [List.getElem?_toArray, h1, Option.getD_some]
    exact h2
  unfold evBody at hr
  split at hr
  · rename_i e h1 hev
    split at hr
    · rename_i vs hvs
      simp only [Option.some.injEq, Prod.mk.injEq] at hr
      obtain ⟨rfl, rfl⟩ := hr
      refine wp_mono (code_sound hcall hmd hmo hmix hc hw hs hev) ?_
      rintro x a w' ⟨hex, j', htr, hs'⟩
      cases x <;> simp only [exRel] at hex
      obtain ⟨c, hv, hrun⟩ := results_sound htr.wr hs'.er hres hvs
      exact ⟨hs'.defers, c, hrun, j', c, htr, hv, rfl⟩
    · simp at hr
  · rename_i e h1 hev
    split at hr
    · rename_i vs hvs
      simp only [Option.some.injEq, Prod.mk.injEq] at hr
      obtain ⟨rfl, rfl⟩ := hr
      refine wp_mono (code_sound hcall hmd hmo hmix hc hw hs hev) ?_
      rintro x a w' ⟨hex, j', htr, hs'⟩
      cases x <;> simp only [exRel] at hex
      obtain ⟨c, hv, hrun⟩ := results_sound htr.wr hs'.er hres hvs
      exact ⟨hs'.defers, c, hrun, j', c, htr, hv, rfl⟩
    · simp at hr
  · simp at hr

/-- nothing was written: the caller's heap is as it was -/
theorem quiet_trans {j j0 j' : JM} {H H0 H' : Heap} {w w' : World} (hw : WR j H w) (hno : ∀ k, ¬ Own j0 H0 k) (htr : Trans j0 H0 w j' H' w') : Trans j H w j H w' := by
  have hheap : ∀ k, k < w.heap.size → w'.heap[k]? = w.heap[k]? := fun k hk => htr.keep k hk (hno k)
  have hwr : WR j H w' := hw.of_heap htr.size (fun b cs loc hb hj => by
    obtain ⟨loc', hj', hlt, _⟩ := hw.cell b cs hb
    rw [hj] at hj'
    obtain rfl := Option.some.inj hj'
    exact hheap _ hlt)
  exact ⟨Ext.refl j, hwr, rfl, Nat.le_refl _, htr.os, htr.tape, htr.output, htr.size, fun k hk _ => hheap k hk, fun k hk h => h⟩

theorem no_own_frz {j : JM} {H : Heap} {w : World} (hw : WR j H w) (k : Nat) : ¬ Own j H.frz k := by
  rintro ⟨b, cs, loc, hr, hb, _, _⟩
  have := hw.hdom b cs hb
  simp at hr
  omega

theorem no_own_empty (k : Nat) : ¬ Own (fun _ => none) Heap.empty k := by
  rintro ⟨b, cs, loc, hr, hb, _, _⟩
  simp at hb

theorem newSl_sound {j j' : JM} {H H' H2 : Heap} {w w' : World} {size : Nat} {v v2 : AV} {c : Value} (hw : WR j H w) (htr : Trans j H.frz w j' H' w') (hv : VR j' v c) (h : newSl H size H' v = some (v2, H2)) :
    ∃ j2, Trans j H w j2 H2 w' ∧ VR j2 v2 c := by
  have hq := quiet_trans hw (no_own_frz hw) htr
  unfold newSl at h
  split at h
  · simp only [Option.some.injEq, Prod.mk.injEq] at h
    obtain ⟨rfl, rfl⟩ := h
    exact ⟨j, hq, hv⟩
  · rename_i b off len z
    obtain ⟨hb, h⟩ := bif_some h
    simp only [Bool.and_eq_true, decide_eq_true_eq, Nat.beq_eq] at hb
    obtain ⟨hnb, rfl⟩ := hb
    split at h
    · rename_i cs hcs
      obtain ⟨hsc, h⟩ := bif_some h
      simp only [Option.some.injEq, Prod.mk.injEq] at h
      obtain ⟨rfl, rfl⟩ := h
      obtain ⟨loc, cap', hl, hle, hext, hex, he⟩ := hv
      obtain ⟨L, hL, hbd, rfl⟩ := loadAt_some hcs
      obtain ⟨loc', hl', hlt, hLe, hcell⟩ := htr.wr.cell b L hL
      rw [hl] at hl'
      obtain rfl := Option.some.inj hl'
      have hro : H'.ro ≤ b := by rw [htr.ro]; simpa using hnb
      have hown := htr.wr.own b L loc hro hL hl
      have hblk : w.heap.size ≤ loc.blk := by
        rcases Nat.lt_or_ge loc.blk w.heap.size with h1 | h1
        · exact absurd (htr.grow _ h1 ⟨b, L, loc, hro, hL, hl, rfl⟩) (no_own_frz hw _)
        · exact h1
      have hjext := upd_ext hw ⟨loc.blk, loc.off + off, cap' * z⟩
      have hlen : ((L.drop off).take (len * z)).length = len * z := by simp; omega
      have hmul : len * z ≤ cap' * z := Nat.mul_le_mul_right _ hle
      have gold : ∀ b' cs', b' ≠ H.next → (H.push ((L.drop off).take (len * z))).get b' = some cs' → H.get b' = some cs' := by
        intro b' cs' hne hb'
        simpa [hne] using hb'
      have jold : ∀ b', b' ≠ H.next → upd j H.next ⟨loc.blk, loc.off + off, cap' * z⟩ b' = j b' := fun b' hne => by simp [upd, hne]
      have hold : ∀ b' cs' loc', H.get b' = some cs' → j b' = some loc' → loc'.blk < w.heap.size := by
        intro b' cs' loc' hb' hj'
        obtain ⟨l2, h2, h3, _⟩ := hw.cell b' cs' hb'
        rw [hj'] at h2
        obtain rfl := Option.some.inj h2
        exact h3
      refine ⟨upd j H.next ⟨loc.blk, loc.off + off, cap' * z⟩, ⟨hjext, ⟨?_, ?_, ?_, ?_, ?_⟩, rfl, by simp, hq.os, hq.tape, hq.output, hq.size, hq.keep, ?_⟩, ?_⟩
      · intro b' loc' hb'
        simp only [upd] at hb'
        split at hb'
        · simp; omega
        · have := hw.dom b' loc' hb'; simp; omega
      · intro b' cs' hb'
        by_cases hne : b' = H.next
        · simp; omega
        · have := hw.hdom b' cs' (gold b' cs' hne hb'); simp; omega
      · intro b' cs' hb'
        by_cases hne : b' = H.next
        · subst hne
          simp only [Heap.get_push, if_true, Option.some.injEq] at hb'
          subst hb'
          refine ⟨_, upd_same .., hlt, by rw [hlen]; exact hmul, fun i x hx => ?_⟩
          have hxi : i < len * z := by
            rcases Nat.lt_or_ge i (len * z) with h1 | h1
            · exact h1
            · rw [List.getElem?_eq_none (by omega)] at hx; simp at hx
          have hmem : x ∈ (L.drop off).take (len * z) := List.mem_of_getElem? hx
          have hxs : x.scalar = true := by
            have := List.all_eq_true.1 hsc x hmem
            exact this
          rw [List.getElem?_take, if_pos hxi, List.getElem?_drop] at hx
          obtain ⟨c0, h1, h2⟩ := hcell _ x hx
          exact ⟨c0, by rw [Nat.add_assoc]; exact h1, VR.scalar hxs h2⟩
        · obtain ⟨l2, h2, h3, h4, h5⟩ := hq.wr.cell b' cs' (gold b' cs' hne hb')
          exact ⟨l2, by rw [jold b' hne]; exact h2, h3, h4, fun i x hx => by
            obtain ⟨c0, h6, h7⟩ := h5 i x hx
            exact ⟨c0, h6, VR.mono hjext h7⟩⟩
      · intro b' cs' loc' hr hb' hj' i hi
        by_cases hne : b' = H.next
        · subst hne
          rw [upd_same] at hj'
          obtain rfl := Option.some.inj hj'
          simp only at hi ⊢
          have := hown (off + i) (by omega)
          rwa [← Nat.add_assoc] at this
        · rw [jold b' hne] at hj'
          exact hq.wr.own b' cs' loc' (by simpa using hr) (gold b' cs' hne hb') hj' i hi
      · intro b1 b2 cs1 cs2 l1 l2 hr hne h1 h2 hj1 hj2
        by_cases n1 : b1 = H.next
        · have n2 : b2 ≠ H.next := fun e' => hne (n1.trans e'.symm)
          rw [n1, upd_same] at hj1
          rw [jold b2 n2] at hj2
          obtain rfl := Option.some.inj hj1
          have := hold b2 cs2 l2 (gold b2 cs2 n2 h2) hj2
          simp only
          omega
        · rw [jold b1 n1] at hj1
          have a1 := hold b1 cs1 l1 (gold b1 cs1 n1 h1) hj1
          by_cases n2 : b2 = H.next
          · rw [n2, upd_same] at hj2
            obtain rfl := Option.some.inj hj2
            simp only
            omega
          · rw [jold b2 n2] at hj2
            exact hw.apart b1 b2 cs1 cs2 l1 l2 (by simpa using hr) hne (gold b1 cs1 n1 h1) (gold b2 cs2 n2 h2) hj1 hj2
      · rintro k hk ⟨b', cs', loc', hr, hb', hj', rfl⟩
        by_cases hne : b' = H.next
        · subst hne
          rw [upd_same] at hj'
          obtain rfl := Option.some.inj hj'
          simp only at hk
          omega
        · rw [jold b' hne] at hj'
          exact ⟨b', cs', loc', by simpa using hr, gold b' cs' hne hb', hj', rfl⟩
      · refine ⟨_, cap', upd_same .., hle, by simp, by simp, ?_⟩
        simpa using he
    · simp at h
  · simp at h

/-- what is known of calls is so -/
def GoodS (P : Program) (sp : Nat → List AV → Option AV) : Prop := ∀ f args v, sp f args = some v →
  (∀ (l : Array Value) (w : World), (callFunc f l).run P w = .ok (.enter f l) w) ∧ ∀ (j : JM) (H : Heap) (w : World) (l : List Value), WR j H w → VRs j args l → Calls P f l.toArray w (FnPost j H w v H)

structure GoodTab (P : Program) (md : Nat → Nat) (T : Tab) : Prop where
  fn : GoodT P md T.fn
  sp : GoodS P T.sp

theorem evF_sound {md : Nat → Nat} {T : Tab} (hG : GoodTab P md T) (hmix : P.follows .mixedOrders = true) : ∀ n, CallOk P (evF T n) ∧ CallCls (evF T n) md ∧ CallMono (evF T n)
  | 0 => ⟨fun f vs H v H' h => by simp [evF] at h, fun f args h v h' hr => by simp [evF] at hr, fun f args h v h' hr => by simp [evF] at hr⟩
  | n + 1 => by
    obtain ⟨ihc, ihm, iho⟩ := evF_sound hG hmix n
    have hT := hG.fn
    refine ⟨?_, ?_, ?_⟩
    · intro f vs H v H' h j w l hw hl
      simp only [evF] at h
      split at h
      · rename_i v0 hsp
        simp only [Option.some.injEq, Prod.mk.injEq] at h
        obtain ⟨rfl, rfl⟩ := h
        obtain ⟨s1, s2⟩ := hG.sp _ _ _ hsp
        exact ⟨fun w => s1 _ w, s2 j _ w l hw hl⟩
      unfold evT at h
      split at h
      · simp at h
      rename_i F hF
      have hgood := (hT f F hF).2
      obtain ⟨fn, code, hf, hb, hn, _, _⟩ := hgood
      refine ⟨fun w => run_callFunc hf hb hn _ w, ?_⟩
      have hgood := (hT f F hF).2
      split at h
      · exact body_sound ihc ihm iho hmix hgood hw hl h
      · split at h
        · rename_i u h1 hev
          obtain ⟨hfree, h⟩ := bif_some h
          simp only [Option.some.injEq, Prod.mk.injEq] at h
          obtain ⟨rfl, rfl⟩ := h
          refine (body_sound ihc ihm iho hmix hgood hw.frz hl hev).mono ?_
          rintro en w' ⟨j', c, htr, hv, rfl⟩
          exact ⟨j, c, quiet_trans hw (no_own_frz hw) htr, VR.frees hfree hv, rfl⟩
        · simp at h
      · obtain ⟨hafree, h⟩ := bif_some h
        split at h
        · rename_i u h1 hev
          obtain ⟨hfree, h⟩ := bif_some h
          simp only [Option.some.injEq, Prod.mk.injEq] at h
          obtain ⟨rfl, rfl⟩ := h
          refine (body_sound ihc ihm iho hmix hgood (WR.empty w) (VRs.allFree hafree hl) hev).mono ?_
          rintro en w' ⟨j', c, htr, hv, rfl⟩
          exact ⟨j, c, quiet_trans hw no_own_empty htr, VR.frees hfree hv, rfl⟩
        · simp at h
      · split at h
        · rename_i u h1 hev
          refine (body_sound ihc ihm iho hmix hgood hw.frz hl hev).mono ?_
          rintro en w' ⟨j', c, htr, hv, rfl⟩
          obtain ⟨j2, h2, h3⟩ := newSl_sound hw htr hv h
          exact ⟨j2, c, h2, h3, rfl⟩
        · simp at h
      · simp at h
    · intro f args h v h' hr
      simp only [evF] at hr
      split at hr
      · rename_i v0 hsp
        simp only [Option.some.injEq, Prod.mk.injEq] at hr
        obtain ⟨rfl, rfl⟩ := hr
        exact ⟨fun _ => ⟨rfl, fun h2 => by simp only [evF, hsp]⟩, fun _ => rfl⟩
      rename_i hsp
      unfold evT at hr
      split at hr
      · simp at hr
      rename_i F hF
      rw [← (hT f F hF).1]
      refine ⟨fun hm => ?_, fun hm => ?_⟩
      · rw [hm] at hr
        simp only at hr
        obtain ⟨hafree, hr⟩ := bif_some hr
        split at hr
        · rename_i u h1 hev
          obtain ⟨hfree, hr⟩ := bif_some hr
          simp only [Option.some.injEq, Prod.mk.injEq] at hr
          obtain ⟨rfl, rfl⟩ := hr
          refine ⟨rfl, fun h2 => ?_⟩
          simp only [evF, evT, hsp, hF, hm, hafree, cond_true, hev, hfree]
        · simp at hr
      · rw [hm] at hr
        simp only at hr
        split at hr
        · obtain ⟨_, hr⟩ := bif_some hr
          simp only [Option.some.injEq, Prod.mk.injEq] at hr
          exact hr.2.symm
        · simp at hr
    · intro f args h v h' hr
      simp only [evF] at hr
      split at hr
      · simp only [Option.some.injEq, Prod.mk.injEq] at hr
        rw [hr.2]; exact Mono.refl _
      unfold evT at hr
      split at hr
      · simp at hr
      split at hr
      · exact mono_body ihm iho hr
      · split at hr
        · obtain ⟨_, hr⟩ := bif_some hr
          simp only [Option.some.injEq, Prod.mk.injEq] at hr
          rw [hr.2]; exact Mono.refl _
        · simp at hr
      · obtain ⟨_, hr⟩ := bif_some hr
        split at hr
        · obtain ⟨_, hr⟩ := bif_some hr
          simp only [Option.some.injEq, Prod.mk.injEq] at hr
          rw [hr.2]; exact Mono.refl _
        · simp at hr
      · split at hr
        · unfold newSl at hr
          split at hr
          · simp only [Option.some.injEq, Prod.mk.injEq] at hr
            rw [hr.2]; exact Mono.refl _
          · obtain ⟨_, hr⟩ := bif_some hr
            split at hr
            · obtain ⟨_, hr⟩ := bif_some hr
              simp only [Option.some.injEq, Prod.mk.injEq] at hr
              obtain ⟨_, rfl⟩ := hr
              exact Mono.push _ _
            · simp at hr
          · simp at hr
        · simp at hr
      · simp at hr

/-- THE SOUNDNESS of the evaluator -/
theorem sound {md : Nat → Nat} {T : Tab} (hT : GoodTab P md T) (hmix : P.follows .mixedOrders = true) {n f : Nat} {args : List AV} {H H' : Heap} {v : AV} (h : evF T n f args H = some (v, H'))
    {j : JM} {w : World} {l : List Value} (hw : WR j H w) (hl : VRs j args l) : Calls P f l.toArray w (FnPost j H w v H') :=
  (((evF_sound hT hmix n).1) f args H v H' h j w l hw hl).2

end
end Go.Ev

/- The table of functions: made out of the loaded program. -/

namespace Go.Ev
set_option linter.unusedVariables false
set_option linter.unusedSimpArgs false
open Go

def mkF (P : Program) (md : Nat → Nat) (f mode size : Nat) : Option AFunc :=
  match P.funcs[f]? with
  | some fn => if fn.name == "runtime.NumGoroutine" then none else
    match fn.body with
    | some code => match cC P md fn.ntmps code, cRes P fn.results.toList with
      | some body, some rs => some ⟨mode, size, rs, body⟩
      | _, _ => none
    | none => none
  | none => none

theorem mkF_good {P : Program} {md : Nat → Nat} {f mode size : Nat} {F : AFunc} (h : mkF P md f mode size = some F) : F.mode = mode ∧ GoodF P md f F := by
  unfold mkF at h
  split at h <;> (try simp at h; done)
  rename_i fn hfn
  split at h <;> (try simp at h; done)
  rename_i hn
  split at h <;> (try simp at h; done)
  rename_i code hcode
  split at h <;> (try simp at h; done)
  rename_i body rs hb hr
  obtain rfl := Option.some.inj h
  exact ⟨rfl, fn, code, hfn, hcode, by simpa using hn, hb, hr⟩

theorem good_of_mkF {P : Program} {md : Nat → Nat} {f k mode size : Nat} {F G : AFunc} (hf : f.beq k = true) (h : some G = some F) (g : mkF P md k mode size = some G) (hm : md k = mode) : F.mode = md f ∧ GoodF P md f F := by
  obtain rfl : f = k := Nat.eq_of_beq_eq_true hf
  obtain rfl := Option.some.inj h
  obtain ⟨a, b⟩ := mkF_good g
  exact ⟨a.trans hm.symm, b⟩

theorem bif_split {α : Type} {b : Bool} {x y z : α} {p : Prop} (h : (bif b then x else y) = z) (h1 : b = true → x = z → p) (h2 : y = z → p) : p := by
  cases b with
  | true => exact h1 rfl h
  | false => exact h2 h

end Go.Ev

/- What came in, brought into the evaluator's heap. -/

namespace Go.Ev
set_option linter.unusedVariables false
set_option linter.unusedSimpArgs false
open Go

inductive LK where
  | bool
  | int (k : IntKind)
  | float (k : FloatKind)
  | str

def leafFs (P : Program) (go : TypeId → Option (List LK)) : List Field → Nat → Option (List LK)
  | [], _ => some []
  | f :: fs, n => if f.offset = n then (match go f.type with
      | some ks => if P.cellsOf f.type = ks.length then (match leafFs P go fs (n + ks.length) with
        | some rest => some (ks ++ rest)
        | none => none) else none
      | none => none) else none

/-- the leaves of a type without pointers, one behind the other -/
def leaves (P : Program) : Nat → TypeId → Option (List LK)
  | 0, _ => none
  | d + 1, t => match P.underlying t with
    | some .bool => some [.bool]
    | some (.int k) => some [.int k]
    | some (.float k) => some [.float k]
    | some .string => some [.str]
    | some (.struct fs) => match leafFs P (leaves P d) fs.toList 0 with
      | some ks => if P.cellsOf t = ks.length then some ks else none
      | none => none
    | some (.array n e) => match leaves P d e with
      | some ks => if P.cellsOf e = ks.length ∧ P.cellsOf t = n * ks.length then some (List.replicate n ks).flatten else none
      | none => none
    | _ => none

def cellIs : LK → AV → Prop
  | .bool, v => ∃ b, v = .bool b
  | .int k, v => ∃ n, v = .int k n ∧ (Lit.int k n).wf = true
  | .float k, v => ∃ n, v = .float k n ∧ (Lit.float k n).wf = true
  | .str, v => ∃ s, v = .str s ∧ s.length ≤ maxLen

def RowIs : List LK → List AV → Prop
  | [], l => l = []
  | k :: ks, l => ∃ x xs, l = x :: xs ∧ cellIs k x ∧ RowIs ks xs

theorem RowIs.append {a b : List LK} {x y : List AV} (h : RowIs a x) (k : RowIs b y) : RowIs (a ++ b) (x ++ y) := by
  induction a generalizing x with
  | nil => simp only [RowIs] at h; subst h; exact k
  | cons c cs ih => obtain ⟨v, vs, rfl, h1, h2⟩ := h; exact ⟨v, vs ++ y, rfl, h1, ih h2⟩

theorem RowIs.length {ks : List LK} {x : List AV} (h : RowIs ks x) : x.length = ks.length := by
  induction ks generalizing x with
  | nil => simp only [RowIs] at h; subst h; rfl
  | cons c cs ih => obtain ⟨v, vs, rfl, _, h2⟩ := h; simp [ih h2]

theorem RowIs.one {ks : List LK} {x : List AV} (h : RowIs ks x) : x.all AV.one = true ∧ x.all AV.scalar = true := by
  induction ks generalizing x with
  | nil => simp only [RowIs] at h; subst h; exact ⟨rfl, rfl⟩
  | cons c cs ih =>
    obtain ⟨v, vs, rfl, h1, h2⟩ := h
    obtain ⟨a, b⟩ := ih h2
    cases c <;> simp only [cellIs] at h1
    · obtain ⟨_, rfl⟩ := h1; simp [AV.one, AV.scalar, a, b]
    · obtain ⟨_, rfl, _⟩ := h1; simp [AV.one, AV.scalar, a, b]
    · obtain ⟨_, rfl, _⟩ := h1; simp [AV.one, AV.scalar, a, b]
    · obtain ⟨_, rfl, _⟩ := h1; simp [AV.one, AV.scalar, a, b]

theorem mapM_all {α β : Type} {f : α → Option β} : ∀ {l : List α} {r : List β}, l.mapM f = some r → ∀ x ∈ l, ∃ y, f x = some y
  | [], _, _, x, hx => by simp at hx
  | a :: l, r, h, x, hx => by
    rw [List.mapM_cons] at h
    simp only [bind, Option.bind_eq_some_iff] at h
    obtain ⟨y, hy, ys, hys, _⟩ := h
    rcases List.mem_cons.1 hx with rfl | hx
    · exact ⟨y, hy⟩
    · exact mapM_all hys x hx


section
variable {H : Type} {enc : TypeId × Value → H} {P : Program} {w : World} {base : Nat} {spare : Nat → Bool} {held : Bool}

/-- what is read of a type without pointers -/
def CellsOk (P : Program) (w : World) (base : Nat) (spare : Nat → Bool) (held : Bool) (enc : TypeId × Value → H) (t : TypeId) (ks : List LK) : Prop :=
  ∀ (fuel : Nat) (cs : List Value) (x : DataW H × List MemPlace), DataW.trod enc P w base spare held fuel t cs = some x → ∃ xs, (∀ j, VRs j xs cs) ∧ RowIs ks xs

theorem mapM_cons_some {α β : Type} {f : α → Option β} {a : α} {l : List α} {r : List β} (h : (a :: l).mapM f = some r) : ∃ y ys, f a = some y ∧ l.mapM f = some ys := by
  rw [List.mapM_cons] at h
  simp only [bind, Option.bind_eq_some_iff] at h
  obtain ⟨y, hy, ys, hys, _⟩ := h
  exact ⟨y, ys, hy, hys⟩

theorem imp_fields {go : TypeId → Option (List LK)} (hgo : ∀ t ks, go t = some ks → CellsOk P w base spare held enc t ks) {fuel : Nat} {cs : List Value} :
    ∀ (fs : List Field) (n : Nat) (ks : List LK), leafFs P go fs n = some ks → ∀ {r : List (DataW H × List MemPlace)}, (fs.mapM fun f => DataW.trod enc P w base spare held fuel f.type ((cs.drop f.offset).take (P.cellsOf f.type))) = some r →
    ∃ xs, (∀ j, VRs j xs ((cs.drop n).take ks.length)) ∧ RowIs ks xs
  | [], n, ks, h, r, hm => by
    simp only [leafFs, Option.some.injEq] at h
    subst h
    exact ⟨[], fun j => by simp [VRs], rfl⟩
  | f :: fs, n, ks, h, r, hm => by
    simp only [leafFs] at h
    split at h <;> (try simp at h; done)
    rename_i ho
    split at h <;> (try simp at h; done)
    rename_i k1 hk1
    split at h <;> (try simp at h; done)
    rename_i hc
    split at h <;> (try simp at h; done)
    rename_i rest hr
    obtain rfl := Option.some.inj h
    obtain ⟨y, ys, hy, hys⟩ := mapM_cons_some hm
    obtain ⟨a, ha, ha2⟩ := hgo _ _ hk1 _ _ _ hy
    obtain ⟨b, hb, hb2⟩ := imp_fields hgo fs _ _ hr hys
    refine ⟨a ++ b, fun j => ?_, ha2.append hb2⟩
    rw [List.length_append, List.take_add, List.drop_drop]
    subst ho
    rw [hc] at ha
    exact (ha j).append (hb j)

theorem imp_elems {e : TypeId} {ks : List LK} (hgo : CellsOk P w base spare held enc e ks) (hc : P.cellsOf e = ks.length) {fuel : Nat} {cs : List Value} :
    ∀ (m s : Nat) {r : List (DataW H × List MemPlace)}, ((List.range' s m).mapM fun i => DataW.trod enc P w base spare held fuel e ((cs.drop (i * P.cellsOf e)).take (P.cellsOf e))) = some r →
    ∃ xs, (∀ j, VRs j xs ((cs.drop (s * ks.length)).take (m * ks.length))) ∧ RowIs (List.replicate m ks).flatten xs
  | 0, s, r, hm => ⟨[], fun j => by simp [VRs], by simp [RowIs]⟩
  | m + 1, s, r, hm => by
    rw [List.range'_succ] at hm
    obtain ⟨y, ys, hy, hys⟩ := mapM_cons_some hm
    obtain ⟨a, ha, ha2⟩ := hgo _ _ _ hy
    obtain ⟨b, hb, hb2⟩ := imp_elems hgo hc m (s + 1) hys
    rw [hc] at ha
    refine ⟨a ++ b, fun j => ?_, ?_⟩
    · rw [Nat.succ_mul, Nat.add_comm (m * _), List.take_add, List.drop_drop]
      have := hb j
      rw [Nat.succ_mul] at this
      exact (ha j).append this
    · rw [List.replicate_succ, List.flatten_cons]
      exact ha2.append hb2

theorem imp_cells : ∀ (dd : Nat) (t : TypeId) (ks : List LK), leaves P dd t = some ks → CellsOk P w base spare held enc t ks
  | 0, _, _, h => by simp [leaves] at h
  | dd + 1, t, ks, h => by
    intro fuel cs x hd
    cases fuel with
    | zero => simp [DataW.trod] at hd
    | succ fuel =>
    simp only [leaves] at h
    cases hu : P.underlying t with
    | none => simp [hu] at h
    | some u =>
      cases u <;> simp only [hu] at h <;> (try simp at h; done)
      case bool =>
        obtain rfl := Option.some.inj h
        simp only [DataW.trod, hu] at hd
        split at hd <;> first
          | (exact ⟨[.bool _], fun j => ⟨_, [], rfl, rfl, rfl⟩, ⟨_, [], rfl, ⟨_, rfl⟩, rfl⟩⟩)
          | (exfalso; simp_all; done)
      case int k =>
        obtain rfl := Option.some.inj h
        simp only [DataW.trod, hu] at hd
        split at hd <;> first
          | (rename_i k2 k' n he
             split at hd <;> (try simp at hd; done)
             rename_i hk
             obtain rfl : k = k2 := by simpa using he
             obtain ⟨rfl, hwf⟩ := hk
             exact ⟨[.int _ n], fun j => ⟨_, [], rfl, rfl, rfl⟩, ⟨_, [], rfl, ⟨n, rfl, hwf⟩, rfl⟩⟩)
          | (exfalso; simp_all; done)
      case float k =>
        obtain rfl := Option.some.inj h
        simp only [DataW.trod, hu] at hd
        split at hd <;> first
          | (rename_i k2 k' n he
             split at hd <;> (try simp at hd; done)
             rename_i hk
             obtain rfl : k = k2 := by simpa using he
             obtain ⟨rfl, hwf⟩ := hk
             exact ⟨[.float _ n], fun j => ⟨_, [], rfl, rfl, rfl⟩, ⟨_, [], rfl, ⟨n, rfl, hwf⟩, rfl⟩⟩)
          | (exfalso; simp_all; done)
      case string =>
        obtain rfl := Option.some.inj h
        simp only [DataW.trod, hu] at hd
        split at hd <;> first
          | (rename_i s he
             split at hd <;> (try simp at hd; done)
             rename_i hs
             exact ⟨[.str s.data.toList], fun j => ⟨_, [], rfl, (by simp [VR]), rfl⟩, ⟨_, [], rfl, ⟨_, rfl, by simpa using hs⟩, rfl⟩⟩)
          | (exfalso; simp_all; done)
      case struct fs =>
        split at h <;> (try simp at h; done)
        rename_i k1 hk1
        split at h <;> (try simp at h; done)
        rename_i hc
        obtain rfl := Option.some.inj h
        simp only [DataW.trod, hu] at hd
        split at hd <;> (try simp at hd; done)
        rename_i hl
        obtain ⟨r, hr, _⟩ := Option.map_eq_some_iff.1 hd
        obtain ⟨xs, h1, h2⟩ := imp_fields (fun t ks h => imp_cells dd t ks h) _ _ _ hk1 hr
        refine ⟨xs, fun j => ?_, h2⟩
        have := h1 j
        rw [List.drop_zero, List.take_of_length_le (by omega)] at this
        exact this
      case array n e =>
        split at h <;> (try simp at h; done)
        rename_i k1 hk1
        split at h <;> (try simp at h; done)
        rename_i hc
        obtain rfl := Option.some.inj h
        simp only [DataW.trod, hu] at hd
        split at hd <;> (try simp at hd; done)
        rename_i hl
        obtain ⟨r, hr, _⟩ := Option.map_eq_some_iff.1 hd
        rw [List.range_eq_range'] at hr
        obtain ⟨xs, h1, h2⟩ := imp_elems (imp_cells dd e k1 hk1) hc.1 n 0 hr
        refine ⟨xs, fun j => ?_, h2⟩
        have := h1 j
        rw [Nat.zero_mul, List.drop_zero, List.take_of_length_le (by omega)] at this
        exact this

end
end Go.Ev

/- The arguments of a law brought into the evaluator's heap, and what the evaluator's answer says of the call. -/

namespace Go.Ev
set_option linter.unusedVariables false
set_option linter.unusedSimpArgs false
open Go Go.RowKit

/-! ### a read-only block more -/
def Heap.pushRo (H : Heap) (cs : List AV) : Heap := (H.push cs).frz

def JM.put (j : JM) (b : Nat) (l : Loc) : JM := fun x => if x = b then some l else j x

theorem Ext.put {j : JM} {H : Heap} {w : World} (hw : WR j H w) (l : Loc) : Ext j (j.put H.next l) := by
  intro b loc h
  have := hw.dom _ _ h
  simp only [JM.put]
  rw [if_neg (by omega)]
  exact h

/-- the base of a law's call: all blocks are read-only -/
structure Base (j : JM) (H : Heap) (w : World) : Prop where
  wr : WR j H w
  ro : H.ro = H.next

theorem Base.empty (w : World) : Base (fun _ => none) Heap.empty w where
  wr := {
    dom := fun b loc h => by simp at h
    hdom := fun b cs h => by simp [Heap.empty, Heap.get, Tr.get] at h
    cell := fun b cs h => by simp [Heap.empty, Heap.get, Tr.get] at h
    own := fun b cs loc _ h => by simp [Heap.empty, Heap.get, Tr.get] at h
    apart := fun b b' cs cs' loc loc' _ _ h => by simp [Heap.empty, Heap.get, Tr.get] at h }
  ro := rfl

theorem Base.noOwn {j : JM} {H : Heap} {w : World} (h : Base j H w) (k : Nat) : ¬ Own j H k := by
  rintro ⟨b, cs, loc, h1, h2, _, _⟩
  have := h.wr.hdom _ _ h2
  have := h.ro
  omega

theorem Base.put {j : JM} {H : Heap} {w : World} (h : Base j H w) {cs : List AV} {l : Loc} (hb : l.blk < w.heap.size) (he : cs.length ≤ l.ext)
    (hc : ∀ i x, cs[i]? = some x → ∃ c, w.cell? ⟨l.blk, l.off + i, none⟩ = some c ∧ ∀ j, VR j x c) : Base (j.put H.next l) (H.pushRo cs) w where
  wr := {
    dom := fun b loc hj => by
      simp only [JM.put] at hj
      split at hj
      · subst b; simp [Heap.pushRo, Heap.push, Heap.frz]
      · have := h.wr.dom _ _ hj
        simp [Heap.pushRo, Heap.push, Heap.frz]; omega
    hdom := fun b cs' hg => by
      simp only [Heap.pushRo, Heap.get_frz, Heap.get_push] at hg
      split at hg
      · subst b; simp [Heap.pushRo, Heap.push, Heap.frz]
      · have := h.wr.hdom _ _ hg
        simp [Heap.pushRo, Heap.push, Heap.frz]; omega
    cell := fun b cs' hg => by
      simp only [Heap.pushRo, Heap.get_frz, Heap.get_push] at hg
      split at hg
      · subst b
        obtain rfl := Option.some.inj hg
        refine ⟨l, by simp [JM.put], hb, he, fun i x hx => ?_⟩
        obtain ⟨c, h1, h2⟩ := hc i x hx
        exact ⟨c, h1, h2 _⟩
      · obtain ⟨loc, h1, h2, h3, h4⟩ := h.wr.cell _ _ hg
        refine ⟨loc, Ext.put h.wr l _ _ h1, h2, h3, fun i x hx => ?_⟩
        obtain ⟨c, h5, h6⟩ := h4 i x hx
        exact ⟨c, h5, h6.mono (Ext.put h.wr l)⟩
    own := fun b cs' loc hr hg => by
      exfalso
      simp only [Heap.pushRo, Heap.get_frz, Heap.get_push] at hg
      simp only [Heap.pushRo, Heap.push, Heap.frz] at hr
      split at hg
      · omega
      · have := h.wr.hdom _ _ hg
        omega
    apart := fun b b' cs' cs'' loc loc' hr _ hg => by
      exfalso
      simp only [Heap.pushRo, Heap.get_frz, Heap.get_push] at hg
      simp only [Heap.pushRo, Heap.push, Heap.frz] at hr
      split at hg
      · omega
      · have := h.wr.hdom _ _ hg
        omega }
  ro := by simp [Heap.pushRo, Heap.push, Heap.frz]

section
variable {H : Type} {enc : TypeId × Value → H} {P : Program} {w : World} {spare : Nat → Bool} {held : Bool} {r : Reach} {b0 : Nat}

/-- a struct or an array -/
theorem imp_row {t : TypeId} {v : Value} {d : DataW H} {p : List MemPlace} {ks : List LK} (dd : Nat) (hk : leaves P dd t = some ks)
    (hu : (match P.underlying t with | some (.struct _) => true | some (.array _ _) => true | _ => false) = true)
    (hval : Value.okWide P w r b0 t v) (h : DataW.Trod enc P w 0 spare held t v d p) :
    ∃ xs, (∀ j, VR j (.agg xs) v) ∧ RowIs ks xs := by
  have : ∃ cs, v = .agg cs := by
    unfold Value.okWide at hval
    split at hu
    · rename_i e; simp only [e] at hval; obtain ⟨cs, rfl, _⟩ := hval; exact ⟨cs, rfl⟩
    · rename_i e; simp only [e] at hval; obtain ⟨cs, rfl, _⟩ := hval; exact ⟨cs, rfl⟩
    · simp at hu
  obtain ⟨cs, rfl⟩ := this
  obtain ⟨fuel, hf⟩ := h
  obtain ⟨xs, h1, h2⟩ := imp_cells dd t ks hk _ _ _ hf
  refine ⟨xs, fun j => ⟨_, ?_, h1 j⟩, h2⟩
  simp [Value.cells]

theorem heap_of_shape {b : Nat} {x : TypeId × Nat} (h : w.shape? b = some x) : b < w.heap.size := by
  unfold World.shape? at h
  cases e : w.heap[b]? with
  | none => simp [e] at h
  | some o => exact (Array.getElem?_eq_some_iff.1 e).1

/-- a slice -/
theorem imp_slice {t e : TypeId} {v : Value} {d : DataW H} {p : List MemPlace} {ks : List LK} (dd : Nat) (ht : P.underlying t = some (.slice e)) (hk : leaves P dd e = some ks) (hc : P.cellsOf e = ks.length)
    (hval : Value.okWide P w r b0 t v) (h : DataW.Trod enc P w 0 spare held t v d p) :
    v = .slice none 0 0 ∨ ∃ blk off len cap xs, v = .slice (some ⟨blk, off, none⟩) len cap ∧ len ≤ cap ∧ cap ≤ maxLen ∧ blk < w.heap.size ∧ RowIs (List.replicate len ks).flatten xs ∧
      ∀ i x, xs[i]? = some x → ∃ c, w.cell? ⟨blk, off + i, none⟩ = some c ∧ ∀ j, VR j x c := by
  obtain ⟨fuel, hf⟩ := h
  have hv : v.cells.toList = [v] ∧ (∀ a len cap, v = .slice (some a) len cap → a.spot = none ∧ a.block < w.heap.size) := by
    unfold Value.okWide at hval
    simp only [ht, Cell.okWide, Cell.ok] at hval
    cases v <;> simp at hval <;> refine ⟨by simp [Value.cells], ?_⟩
    rename_i a len cap
    intro a' len' cap' he
    simp only [Value.slice.injEq] at he
    obtain ⟨rfl, rfl, rfl⟩ := he
    simp at hval
    obtain ⟨_, _, _, hs, x, y, hsh, _⟩ := hval
    exact ⟨hs, heap_of_shape hsh⟩
  rw [hv.1] at hf
  rcases DataW.trod_slice ht hf with ⟨h0, _⟩ | ⟨a, len, cap, elems, rest, n, _, hcs, _, _, hl, hm, hlen, hel, _, _⟩
  · left; simpa using h0
  · right
    have hve : v = .slice (some a) len cap := by simpa using hcs
    obtain ⟨hsp, hblk⟩ := hv.2 _ _ _ hve
    obtain ⟨blk, off, spot⟩ := a
    simp only at hsp hblk
    subst hsp
    have key : ∀ m, m ≤ len → ∃ xs, RowIs (List.replicate m ks).flatten xs ∧ ∀ i x, xs[i]? = some x → ∃ c, w.cell? ⟨blk, off + i, none⟩ = some c ∧ ∀ j, VR j x c := by
      intro m
      induction m with
      | zero => intro _; exact ⟨[], by simp [RowIs], fun i x hx => by simp at hx⟩
      | succ m ih =>
        intro hm'
        obtain ⟨xs, hx1, hx2⟩ := ih (by omega)
        have hh := hel m (by omega)
        have hlt : m < elems.length := by omega
        rw [List.getElem?_eq_getElem hlt, Option.bind_eq_some_iff] at hh
        obtain ⟨cs, hcs1, hcs2⟩ := hh
        obtain ⟨ys, hy1, hy2⟩ := imp_cells dd e ks hk _ _ _ hcs2
        obtain ⟨_, hcl, hcell⟩ := World.cells?_some hcs1
        refine ⟨xs ++ ys, ?_, fun i x hx => ?_⟩
        · rw [List.replicate_succ', List.flatten_append, List.flatten_cons, List.flatten_nil, List.append_nil]
          exact hx1.append hy2
        · have hxl : xs.length = m * ks.length := by rw [hx1.length]; simp
          by_cases hi : i < xs.length
          · rw [List.getElem?_append_left hi] at hx
            exact hx2 i x hx
          · rw [List.getElem?_append_right (by omega)] at hx
            have hyl : ys.length = cs.length := by rw [hy2.length, hcl, hc]
            have hi2 : i - xs.length < ys.length := (List.getElem?_eq_some_iff.1 hx).1
            have hc1 := hcell (i - xs.length) (by omega)
            obtain ⟨c, hc2, hc3⟩ : ∃ c, cs[i - xs.length]? = some c ∧ ∀ j, VR j x c := by
              have hlt : i - xs.length < cs.length := by omega
              refine ⟨cs[i - xs.length]'hlt, List.getElem?_eq_getElem hlt, fun j => ?_⟩
              obtain ⟨c, h1, h2⟩ := (hy1 j).get _ _ hx
              rw [List.getElem?_eq_getElem hlt] at h1
              obtain rfl := Option.some.inj h1
              exact h2
            refine ⟨c, ?_, hc3⟩
            rw [← hc2, ← hc1, WideShapes.add_plain, WideShapes.add_plain, hc, ← hxl]
            rw [show off + i = off + xs.length + (i - xs.length) by omega]
    obtain ⟨xs, hx1, hx2⟩ := key len (Nat.le_refl _)
    exact ⟨blk, off, len, cap, xs, hve, hl, hm, hblk, hx1, hx2⟩

/-- what a slice that is handed in is in the evaluator -/
theorem slice_put {j : JM} {Hp : Heap} (hb : Base j Hp w) {blk off len cap : Nat} {xs : List AV} {ks : List LK} (hl : len ≤ cap) (hblk : blk < w.heap.size) (hrow : RowIs (List.replicate len ks).flatten xs)
    (hcell : ∀ i x, xs[i]? = some x → ∃ c, w.cell? ⟨blk, off + i, none⟩ = some c ∧ ∀ j, VR j x c) :
    ∃ j', Ext j j' ∧ Base j' (Hp.pushRo xs) w ∧ VR j' (.sl Hp.next 0 len none ks.length) (.slice (some ⟨blk, off, none⟩) len cap) := by
  refine ⟨j.put Hp.next ⟨blk, off, cap * ks.length⟩, Ext.put hb.wr _, hb.put hblk ?_ hcell, ?_⟩
  · have := hrow.length
    simp only [List.length_flatten, List.map_replicate, List.sum_replicate_nat] at this
    rw [this]
    exact Nat.mul_le_mul_right _ hl
  · exact ⟨⟨blk, off, cap * ks.length⟩, cap, by simp [JM.put], hl, by simp, fun m hm => by simp at hm, Or.inl (by simp)⟩

/-- a slice that is handed in, in the evaluator: nothing, or a block of its own -/
def SlIn (ks : List LK) (Hp : Heap) (v : AV) (Hp' : Heap) (xs : List AV) (len : Nat) : Prop :=
  (v = .nilsl ∧ Hp' = Hp ∧ xs = [] ∧ len = 0) ∨ (v = .sl Hp.next 0 len none ks.length ∧ Hp' = Hp.pushRo xs ∧ RowIs (List.replicate len ks).flatten xs)

theorem imp_sl {t e : TypeId} {v : Value} {d : DataW H} {p : List MemPlace} {ks : List LK} (dd : Nat) (ht : P.underlying t = some (.slice e)) (hk : leaves P dd e = some ks) (hc : P.cellsOf e = ks.length)
    (hval : Value.okWide P w r b0 t v) (h : DataW.Trod enc P w 0 spare held t v d p) {j : JM} {Hp : Heap} (hb : Base j Hp w) :
    ∃ j' Hp' v' xs len, Ext j j' ∧ Base j' Hp' w ∧ VR j' v' v ∧ SlIn ks Hp v' Hp' xs len ∧ len ≤ maxLen := by
  rcases imp_slice dd ht hk hc hval h with rfl | ⟨blk, off, len, cap, xs, rfl, hl, hm, hblk, hrow, hcell⟩
  · exact ⟨j, Hp, .nilsl, [], 0, Ext.refl j, hb, rfl, .inl ⟨rfl, rfl, rfl, rfl⟩, Nat.zero_le _⟩
  · obtain ⟨j', h1, h2, h3⟩ := slice_put hb hl hblk hrow hcell
    exact ⟨j', _, _, xs, len, h1, h2, h3, .inr ⟨rfl, rfl, hrow⟩, Nat.le_trans hl hm⟩

/-! ### what the evaluator's answer says of the call -/
theorem law_call {md : Nat → Nat} {T : Tab} (hT : GoodTab P md T) (hmix : P.follows .mixedOrders = true) {n f : Nat} {avs : List AV} {Hp : Heap} {j : JM} {args : List Value}
    (hb : Base j Hp w) (hl : VRs j avs args) (hev : ∃ H', evF T n f avs Hp = some (.bool true, H')) : Calls P f args.toArray w fun e W' => e = .returned (.bool true) ∧ Below w.heap.size w W' := by
  obtain ⟨H', hev⟩ := hev
  refine (sound hT hmix hev hb.wr hl).mono ?_
  rintro e W' ⟨j', c, htr, hv, rfl⟩
  simp only [VR] at hv
  subst hv
  exact ⟨rfl, htr.os, htr.tape, htr.output, htr.size, fun k hk => htr.keep k hk (hb.noOwn k)⟩

theorem trodAll_below (hlo : laidOutB P = true) {W W' : World} (hb : Below W.heap.size W W') : ∀ {ts : List TypeId} {vs : List Value} {ds : List (DataW H)} {p : List MemPlace},
    ts.all (fun t => P.readableRec t && decide (t < P.types.size)) = true →
    DataW.TrodAll enc P W 0 (fun _ => true) true ts vs ds p → DataW.TrodAll enc P W' 0 (fun b => decide (b < W.heap.size)) true ts vs ds p
  | [], [], [], _, _, h => h
  | t :: ts, v :: vs, d :: ds, p, ha, ⟨p1, q, h1, h2, h3⟩ => by
    simp only [List.all_cons, Bool.and_eq_true, decide_eq_true_eq] at ha
    refine ⟨p1, q, Below.trod hlo ha.1.1 ha.1.2 h1 hb ?_, trodAll_below hlo hb ha.2 h2, h3⟩
    intro x hx
    obtain ⟨m, hm⟩ := h1
    exact DataW.trod_lt m _ _ _ hm x hx
  | [], _ :: _, _, _, _, h => h.elim
  | [], [], _ :: _, _, _, h => h.elim
  | _ :: _, [], _, _, _, h => h.elim
  | _ :: _, _ :: _, [], _, _, h => h.elim

end
end Go.Ev

/- The evaluator that parts where a test's outcome is open: its answer is a tree of tests; what a branch answers is the evaluator's answer where the tests come out so. -/

namespace Go.Ev
set_option linter.unusedVariables false
set_option linter.unusedSimpArgs false
open Go

inductive Br (α : Type) where
  | ret (x : α)
  | br (c : Bool) (t e : Br α)
  | bad

def Br.get {α : Type} : Br α → Option α
  | .ret x => some x
  | .br c t e => bif c then t.get else e.get
  | .bad => none

section
variable {α : Type}

/-- what a register's bool is: told, or decided ahead, or parted -/
def boolK (e : Env) (D : Tr Bool) (t : Nat) (k : Bool → Tr Bool → Br α) (other : Br α) : Br α :=
  match lk e t with
  | some (.bool x) => k x D
  | some (.symb x) => match D.get t with
    | some d => k d D
    | none => .br x (k true (D.set (t + 1) t (some true))) (k false (D.set (t + 1) t (some false)))
  | some _ => other
  | none => .bad

def guardK (g : Option (Nat × Bool)) (e : Env) (D : Tr Bool) (k : Bool → Tr Bool → Br α) : Br α :=
  match g with
  | none => k true D
  | some (t, b) => boolK e D t (fun x D => k (x == b) D) (k false D)

abbrev CallK (α : Type) := Nat → List AV → Heap → (AV → Heap → Br α) → Br α

def noCall : CallF := fun _ _ _ => none

def opK (callK : CallK α) (e : Env) (D : Tr Bool) (h : Heap) (k : AV → Tr Bool → Heap → Br α) : AOp → Br α
  | .call f args => match getAll e args with
    | some vs => callK f vs h (fun v h' => k v D h')
    | none => .bad
  | .callv x args => match x.get e with
    | some (.fn f first captured) => (match getAll e args with
      | some vs => callK f (first ++ vs ++ captured) h (fun v h' => k v D h')
      | none => .bad)
    | _ => .bad
  | .pick (.t t) a b => boolK e D t (fun x D => match (bif x then a.get e else b.get e) with
    | some v => k v D h
    | none => .bad) .bad
  | op => match op.run noCall e h with
    | some (v, h') => k v D h'
    | none => .bad

def dropD (D : Tr Bool) (dst : Option Nat) : Tr Bool := match dst with
  | some d => D.set (d + 1) d none
  | none => D

def insK (callK : CallK α) (i : AIns) (e : Env) (D : Tr Bool) (h : Heap) (k : Env → Tr Bool → Heap → Br α) : Br α :=
  guardK i.guard e D fun w D => bif w then opK callK e D h (fun v D h' => k (putE e i.dst v) (dropD D i.dst) h') i.op else k (putE e i.dst (.tup [])) (dropD D i.dst) h

def runK (callK : CallK α) : List AIns → Env → Tr Bool → Heap → (Env → Tr Bool → Heap → Br α) → Br α
  | [], e, D, h, k => k e D h
  | i :: r, e, D, h, k => insK callK i e D h fun e D h => runK callK r e D h k

abbrev ContK (α : Type) := AEx → Env → Tr Bool → Heap → Br α

def loopK (body : Env → Tr Bool → Heap → ContK α → Br α) : Nat → Env → Tr Bool → Heap → ContK α → Br α
  | 0, _, _, _, _ => .bad
  | n + 1, e, D, h, k => body e D h fun x e D h => match x with
    | .normal => loopK body n e D h k
    | .exit id => k (.exit id) e D h
    | .ret => k .ret e D h

def evK (callK : CallK α) (fuel : Nat) : ACode → Env → Tr Bool → Heap → ContK α → Br α
  | .skip, e, D, h, k => k .normal e D h
  | .ret, e, D, h, k => k .ret e D h
  | .exit id, e, D, h, k => k (.exit id) e D h
  | .region ins, e, D, h, k => runK callK ins e D h fun e D h => k .normal e D h
  | .regionD ins conf, e, D, h, k => runK callK ins e D (h.withLog []) fun e' D' h' => bif okConf e' h.next h'.log conf then k .normal e' D' (h'.withLog (h'.log ++ h.log)) else .bad
  | .seq a b, e, D, h, k => evK callK fuel a e D h fun x e D h => match x with
    | .normal => evK callK fuel b e D h k
    | .exit id => k (.exit id) e D h
    | .ret => k .ret e D h
  | .cond (.t t) a b, e, D, h, k => boolK e D t (fun x D => bif x then evK callK fuel a e D h k else evK callK fuel b e D h k) .bad
  | .cond (.c v) a b, e, D, h, k => match v with
    | .bool x => bif x then evK callK fuel a e D h k else evK callK fuel b e D h k
    | _ => .bad
  | .block id b, e, D, h, k => evK callK fuel b e D h fun x e D h => match x with
    | .normal => k .normal e D h
    | .exit id' => bif id'.beq id then k .normal e D h else k (.exit id') e D h
    | .ret => k .ret e D h
  | .loop b, e, D, h, k => loopK (fun e D h k => evK callK fuel b e D h k) fuel e D h k

def bodyK (callK : CallK α) (fuel : Nat) (F : AFunc) (args : List AV) (h : Heap) (k : AV → Heap → Br α) : Br α :=
  evK callK fuel F.body (params 0 args) .nil h fun x e _ h' => match x with
    | .exit _ => .bad
    | .normal => (match resOf e h' F.results with
      | some vs => k (single vs) h'
      | none => .bad)
    | .ret => (match resOf e h' F.results with
      | some vs => k (single vs) h'
      | none => .bad)

def evTK (T : Nat → Option AFunc) (callK : CallK α) (n f : Nat) (args : List AV) (h : Heap) (k : AV → Heap → Br α) : Br α :=
  match T f with
  | none => .bad
  | some F => match F.mode with
    | 0 => bodyK callK n F args h k
    | 1 => bodyK callK n F args h.frz fun v _ => bif v.free then k v h else .bad
    | 2 => bif args.all AV.free then bodyK callK n F args Heap.empty fun v _ => bif v.free then k v h else .bad else .bad
    | 3 => bodyK callK n F args h.frz fun v h' => match newSl h F.size h' v with
      | some (v, h2) => k v h2
      | none => .bad
    | _ => .bad

def evFK (T : Tab) : Nat → CallK α
  | 0, _, _, _, _ => .bad
  | n + 1, f, args, h, k => match T.sp f args with
    | some v => k v h
    | none => evTK T.fn (evFK T n) n f args h k

/-! ### what the tree says -/
def Dok (e : Env) (D : Tr Bool) : Prop := ∀ t d, D.get t = some d → lk e t = some (.symb d)

theorem Dok.nil (e : Env) : Dok e .nil := fun t d h => by simp [Tr.get] at h

theorem Dok.drop {e : Env} {D : Tr Bool} (h : Dok e D) (dst : Option Nat) (v : AV) : Dok (putE e dst v) (dropD D dst) := by
  intro t d hd
  cases dst with
  | none => exact h t d hd
  | some x =>
    simp only [dropD] at hd
    rw [Tr.get_set _ _ _ _ _ (by omega)] at hd
    split at hd
    · simp at hd
    · rename_i hne
      rw [lk_put]
      rw [if_neg (by simp; omega)]
      exact h t d hd

theorem Dok.decide {e : Env} {D : Tr Bool} (h : Dok e D) {t : Nat} {d : Bool} (hl : lk e t = some (.symb d)) : Dok e (D.set (t + 1) t (some d)) := by
  intro s x hx
  rw [Tr.get_set _ _ _ _ _ (by omega)] at hx
  split at hx
  · rename_i hs; subst hs; obtain rfl := Option.some.inj hx; exact hl
  · exact h s x hx

theorem boolK_get {e : Env} {D : Tr Bool} {t : Nat} {k : Bool → Tr Bool → Br α} {other : Br α} {r : α} (hD : Dok e D) (h : (boolK e D t k other).get = some r) :
    (∃ x D', Dok e D' ∧ (k x D').get = some r ∧ (lk e t = some (.bool x) ∨ lk e t = some (.symb x))) ∨
    (other.get = some r ∧ ∃ v, lk e t = some v ∧ (∀ x, v ≠ .bool x) ∧ ∀ x, v ≠ .symb x) := by
  unfold boolK at h
  split at h
  · rename_i x hx; exact .inl ⟨x, D, hD, h, .inl hx⟩
  · rename_i x hx
    split at h
    · rename_i d hd
      have := hD t d hd
      exact .inl ⟨d, D, hD, h, .inr this⟩
    · simp only [Br.get] at h
      cases x with
      | true => exact .inl ⟨true, _, hD.decide hx, h, .inr hx⟩
      | false => exact .inl ⟨false, _, hD.decide hx, h, .inr hx⟩
  · rename_i v h1 h2 hv
    exact .inr ⟨h, v, hv, fun x e => h1 x e, fun x e => h2 x e⟩
  · simp [Br.get] at h

theorem guardK_get {i : AIns} {e : Env} {D : Tr Bool} {k : Bool → Tr Bool → Br α} {r : α} (hD : Dok e D) (h : (guardK i.guard e D k).get = some r) :
    ∃ w D', i.wanted e = some w ∧ Dok e D' ∧ (k w D').get = some r := by
  obtain ⟨ds, g, op⟩ := i
  simp only [AIns.wanted, guardK] at h ⊢
  cases g with
  | none => exact ⟨true, D, rfl, hD, h⟩
  | some g =>
    obtain ⟨t, b⟩ := g
    simp only at h ⊢
    rcases boolK_get hD h with ⟨x, D', h1, h2, h3 | h3⟩ | ⟨h1, v, h2, h3, h4⟩
    · exact ⟨_, D', by rw [h3], h1, h2⟩
    · exact ⟨_, D', by rw [h3], h1, h2⟩
    · refine ⟨false, D, ?_, hD, h1⟩
      rw [h2]
      cases v <;> first | rfl | (exact absurd rfl (h3 _)) | (exact absurd rfl (h4 _))

def CK (callK : CallK α) (callF : CallF) : Prop := ∀ f vs h k r, (callK f vs h k).get = some r → ∃ v h', callF f vs h = some (v, h') ∧ (k v h').get = some r

theorem run_noCall {callF : CallF} {op : AOp} {e : Env} {h h' : Heap} {v : AV} (hr : op.run noCall e h = some (v, h')) : op.run callF e h = some (v, h') := by
  cases op
  case call f args =>
    simp only [AOp.run, noCall] at hr
    split at hr <;> simp at hr
  case callv x args =>
    obtain ⟨u, hu, h2⟩ := on1_some hr
    cases u <;> (try simp at h2; done)
    simp only [noCall] at h2
    split at h2 <;> simp at h2
  all_goals exact hr

theorem opK_get {callK : CallK α} {callF : CallF} (hc : CK callK callF) {op : AOp} {e : Env} {D : Tr Bool} {h : Heap} {k : AV → Tr Bool → Heap → Br α} {r : α} (hD : Dok e D)
    (hr : (opK callK e D h k op).get = some r) : ∃ v h' D', op.run callF e h = some (v, h') ∧ Dok e D' ∧ (k v D' h').get = some r := by
  unfold opK at hr
  split at hr
  · split at hr
    · rename_i vs hvs
      obtain ⟨v, h', h1, h2⟩ := hc _ _ _ _ _ hr
      exact ⟨v, h', D, by simp only [AOp.run, hvs]; exact h1, hD, h2⟩
    · simp [Br.get] at hr
  · split at hr
    · rename_i f fi ca hx
      split at hr
      · rename_i vs hvs
        obtain ⟨v, h', h1, h2⟩ := hc _ _ _ _ _ hr
        exact ⟨v, h', D, by simp only [AOp.run, hx, on1, hvs]; exact h1, hD, h2⟩
      · simp [Br.get] at hr
    · simp [Br.get] at hr
  · rename_i t a b
    rcases boolK_get hD hr with ⟨x, D', h1, h2, h3⟩ | ⟨h1, _⟩
    · split at h2
      · rename_i v hv
        refine ⟨v, h, D', ?_, h1, h2⟩
        simp only [AOp.run]
        show on1 (lk e t) _ = _
        rcases h3 with h3 | h3 <;> (rw [h3]; simp only [on1, hv, pureR])
      · simp [Br.get] at h2
    · simp [Br.get] at h1
  · split at hr
    · rename_i v h' hv
      exact ⟨v, h', D, run_noCall hv, hD, hr⟩
    · simp [Br.get] at hr

theorem insK_get {callK : CallK α} {callF : CallF} (hc : CK callK callF) {i : AIns} {e : Env} {D : Tr Bool} {h : Heap} {k : Env → Tr Bool → Heap → Br α} {r : α} (hD : Dok e D)
    (hr : (insK callK i e D h k).get = some r) : ∃ e' h' D', i.step callF e h = some (e', h') ∧ Dok e' D' ∧ (k e' D' h').get = some r := by
  unfold insK at hr
  obtain ⟨w, D1, hw, hD1, h1⟩ := guardK_get hD hr
  unfold AIns.step
  rw [hw]
  cases w with
  | true =>
    simp only [cond_true] at h1
    obtain ⟨v, h', D2, h2, h3, h4⟩ := opK_get hc hD1 h1
    refine ⟨putE e i.dst v, h', dropD D2 i.dst, by simp only [h2], h3.drop _ _, h4⟩
  | false =>
    simp only [cond_false] at h1
    exact ⟨_, h, dropD D1 i.dst, rfl, hD1.drop _ _, h1⟩

theorem runK_get {callK : CallK α} {callF : CallF} (hc : CK callK callF) : ∀ {l : List AIns} {e : Env} {D : Tr Bool} {h : Heap} {k : Env → Tr Bool → Heap → Br α} {r : α}, Dok e D →
    (runK callK l e D h k).get = some r → ∃ e' h' D', runIns callF l e h = some (e', h') ∧ Dok e' D' ∧ (k e' D' h').get = some r
  | [], e, D, h, k, r, hD, hr => ⟨e, h, D, rfl, hD, hr⟩
  | i :: l, e, D, h, k, r, hD, hr => by
    simp only [runK] at hr
    obtain ⟨e1, h1, D1, g1, g2, g3⟩ := insK_get hc hD hr
    obtain ⟨e2, h2, D2, g4, g5, g6⟩ := runK_get hc g2 g3
    exact ⟨e2, h2, D2, by simp only [runIns, g1]; exact g4, g5, g6⟩

theorem evK_get {callK : CallK α} {callF : CallF} (hc : CK callK callF) {fuel : Nat} : ∀ {c : ACode} {e : Env} {D : Tr Bool} {h : Heap} {k : ContK α} {r : α}, Dok e D →
    (evK callK fuel c e D h k).get = some r → ∃ x e' h' D', evC callF fuel c e h = some (x, e', h') ∧ Dok e' D' ∧ (k x e' D' h').get = some r
  | .skip, e, D, h, k, r, hD, hr => ⟨_, e, h, D, rfl, hD, hr⟩
  | .ret, e, D, h, k, r, hD, hr => ⟨_, e, h, D, rfl, hD, hr⟩
  | .exit _, e, D, h, k, r, hD, hr => ⟨_, e, h, D, rfl, hD, hr⟩
  | .region ins, e, D, h, k, r, hD, hr => by
    simp only [evK] at hr
    obtain ⟨e1, h1, D1, g1, g2, g3⟩ := runK_get hc hD hr
    exact ⟨_, e1, h1, D1, by simp only [evC, g1], g2, g3⟩
  | .regionD ins conf, e, D, h, k, r, hD, hr => by
    simp only [evK] at hr
    obtain ⟨e1, h1, D1, g1, g2, g3⟩ := runK_get hc hD hr
    cases hb : okConf e1 h.next h1.log conf with
    | false => simp [hb, Br.get] at g3
    | true =>
      simp only [hb, cond_true] at g3
      exact ⟨_, e1, _, D1, by simp only [evC, g1, hb, cond_true], g2, g3⟩
  | .seq a b, e, D, h, k, r, hD, hr => by
    simp only [evK] at hr
    obtain ⟨x, e1, h1, D1, g1, g2, g3⟩ := evK_get hc hD hr
    cases x with
    | normal =>
      simp only at g3
      obtain ⟨x, e2, h2, D2, g4, g5, g6⟩ := evK_get hc g2 g3
      exact ⟨x, e2, h2, D2, by simp only [evC, g1]; exact g4, g5, g6⟩
    | exit id => exact ⟨_, e1, h1, D1, by simp only [evC, g1], g2, g3⟩
    | ret => exact ⟨_, e1, h1, D1, by simp only [evC, g1], g2, g3⟩
  | .cond (.t t) a b, e, D, h, k, r, hD, hr => by
    simp only [evK] at hr
    rcases boolK_get hD hr with ⟨x, D', h1, h2, h3⟩ | ⟨h1, _⟩
    · cases x with
      | true =>
        simp only [cond_true] at h2
        obtain ⟨x, e2, h2, D2, g4, g5, g6⟩ := evK_get hc h1 h2
        refine ⟨x, e2, h2, D2, ?_, g5, g6⟩
        rcases h3 with h3 | h3 <;> simp only [evC, Opd.get, h3, cond_true] <;> exact g4
      | false =>
        simp only [cond_false] at h2
        obtain ⟨x, e2, h2, D2, g4, g5, g6⟩ := evK_get hc h1 h2
        refine ⟨x, e2, h2, D2, ?_, g5, g6⟩
        rcases h3 with h3 | h3 <;> simp only [evC, Opd.get, h3, cond_false] <;> exact g4
    · simp [Br.get] at h1
  | .cond (.c v) a b, e, D, h, k, r, hD, hr => by
    simp only [evK] at hr
    split at hr
    · rename_i x
      cases x with
      | true =>
        simp only [cond_true] at hr
        obtain ⟨x, e2, h2, D2, g4, g5, g6⟩ := evK_get hc hD hr
        exact ⟨x, e2, h2, D2, by simp only [evC, Opd.get, cond_true]; exact g4, g5, g6⟩
      | false =>
        simp only [cond_false] at hr
        obtain ⟨x, e2, h2, D2, g4, g5, g6⟩ := evK_get hc hD hr
        exact ⟨x, e2, h2, D2, by simp only [evC, Opd.get, cond_false]; exact g4, g5, g6⟩
    · simp [Br.get] at hr
  | .block id b, e, D, h, k, r, hD, hr => by
    simp only [evK] at hr
    obtain ⟨x, e1, h1, D1, g1, g2, g3⟩ := evK_get hc hD hr
    cases x with
    | normal => exact ⟨_, e1, h1, D1, by simp only [evC, g1], g2, g3⟩
    | exit id' =>
      simp only at g3
      cases hb : id'.beq id with
      | true => simp only [hb, cond_true] at g3; exact ⟨_, e1, h1, D1, by simp only [evC, g1, hb, cond_true], g2, g3⟩
      | false => simp only [hb, cond_false] at g3; exact ⟨_, e1, h1, D1, by simp only [evC, g1, hb, cond_false], g2, g3⟩
    | ret => exact ⟨_, e1, h1, D1, by simp only [evC, g1], g2, g3⟩
  | .loop b, e, D, h, k, r, hD, hr => by
    simp only [evK] at hr
    have key : ∀ (n : Nat) {e D h}, Dok e D → (loopK (fun e D h k => evK callK fuel b e D h k) n e D h k).get = some r →
        ∃ x e' h' D', loopN (fun e h => evC callF fuel b e h) n e h = some (x, e', h') ∧ Dok e' D' ∧ (k x e' D' h').get = some r := by
      intro n
      induction n with
      | zero => intro e D h _ hl; simp [loopK, Br.get] at hl
      | succ n ih =>
        intro e D h hD hl
        simp only [loopK] at hl
        obtain ⟨x, e1, h1, D1, g1, g2, g3⟩ := evK_get hc hD hl
        cases x with
        | normal =>
          simp only at g3
          obtain ⟨x, e2, h2, D2, g4, g5, g6⟩ := ih g2 g3
          exact ⟨x, e2, h2, D2, by simp only [loopN, g1]; exact g4, g5, g6⟩
        | exit id => exact ⟨_, e1, h1, D1, by simp only [loopN, g1], g2, g3⟩
        | ret => exact ⟨_, e1, h1, D1, by simp only [loopN, g1], g2, g3⟩
    obtain ⟨x, e', h', D', g1, g2, g3⟩ := key fuel hD hr
    exact ⟨x, e', h', D', by simp only [evC]; exact g1, g2, g3⟩

theorem bodyK_get {callK : CallK α} {callF : CallF} (hc : CK callK callF) {fuel : Nat} {F : AFunc} {args : List AV} {h : Heap} {k : AV → Heap → Br α} {r : α} (hr : (bodyK callK fuel F args h k).get = some r) :
    ∃ v h', evBody callF fuel F args h = some (v, h') ∧ (k v h').get = some r := by
  unfold bodyK at hr
  obtain ⟨x, e', h', D', g1, g2, g3⟩ := evK_get hc (Dok.nil _) hr
  cases x with
  | exit id => simp [Br.get] at g3
  | normal =>
    simp only at g3
    split at g3
    · rename_i vs hvs; exact ⟨_, h', by simp only [evBody, g1, hvs], g3⟩
    · simp [Br.get] at g3
  | ret =>
    simp only at g3
    split at g3
    · rename_i vs hvs; exact ⟨_, h', by simp only [evBody, g1, hvs], g3⟩
    · simp [Br.get] at g3

theorem evTK_get {T : Nat → Option AFunc} {callK : CallK α} {callF : CallF} (hc : CK callK callF) {n f : Nat} {args : List AV} {h : Heap} {k : AV → Heap → Br α} {r : α}
    (hr : (evTK T callK n f args h k).get = some r) : ∃ v h', evT T callF n f args h = some (v, h') ∧ (k v h').get = some r := by
  unfold evTK at hr
  unfold evT
  split at hr
  · simp [Br.get] at hr
  · rename_i F hF
    split at hr
    · rename_i hm; simp only [hF, hm]; exact bodyK_get hc hr
    · rename_i hm
      simp only [hF, hm]
      obtain ⟨v, h', g1, g2⟩ := bodyK_get hc hr
      cases hb : v.free with
      | false => simp [hb, Br.get] at g2
      | true => simp only [hb, cond_true] at g2; exact ⟨v, h, by simp only [g1, hb, cond_true], g2⟩
    · rename_i hm
      simp only [hF, hm]
      cases ha : args.all AV.free with
      | false => simp [ha, Br.get] at hr
      | true =>
        simp only [ha, cond_true] at hr ⊢
        obtain ⟨v, h', g1, g2⟩ := bodyK_get hc hr
        cases hb : v.free with
        | false => simp [hb, Br.get] at g2
        | true => simp only [hb, cond_true] at g2; exact ⟨v, h, by simp only [g1, hb, cond_true], g2⟩
    · rename_i hm
      simp only [hF, hm]
      obtain ⟨v, h', g1, g2⟩ := bodyK_get hc hr
      split at g2
      · rename_i v2 h2 hn; exact ⟨v2, h2, by simp only [g1, hn], g2⟩
      · simp [Br.get] at g2
    · simp [Br.get] at hr

theorem evFK_get {T : Tab} : ∀ n, CK (α := α) (evFK T n) (evF T n)
  | 0 => fun f vs h k r hr => by simp [evFK, Br.get] at hr
  | n + 1 => fun f vs h k r hr => by
    simp only [evFK] at hr
    simp only [evF]
    split at hr
    · rename_i v hv; exact ⟨v, h, by simp only [hv], hr⟩
    · rename_i hv
      simp only [hv]
      exact evTK_get (evFK_get n) hr

/-- the tree of a call -/
def tree (T : Tab) (n f : Nat) (args : List AV) (h : Heap) : Br (AV × Heap) := evFK T n f args h fun v h' => .ret (v, h')

theorem tree_get {T : Tab} {n f : Nat} {args : List AV} {h h' : Heap} {v : AV} (hr : (tree T n f args h).get = some (v, h')) : evF T n f args h = some (v, h') := by
  obtain ⟨v1, h1, g1, g2⟩ := evFK_get n _ _ _ _ _ hr
  simp only [Br.get, Option.some.injEq, Prod.mk.injEq] at g2
  obtain ⟨rfl, rfl⟩ := g2
  exact g1

/-- a tree for what comes back alone -/
def treeV (T : Tab) (n f : Nat) (args : List AV) (h : Heap) : Br AV := evFK T n f args h fun v _ => .ret v

theorem treeV_get {T : Tab} {n f : Nat} {args : List AV} {h : Heap} {v : AV} (hr : (treeV T n f args h).get = some v) : ∃ h', evF T n f args h = some (v, h') := by
  obtain ⟨v1, h1, g1, g2⟩ := evFK_get n _ _ _ _ _ hr
  simp only [Br.get, Option.some.injEq] at g2
  subst g2
  exact ⟨_, g1⟩

end
end Go.Ev
