/- Regions whose order is open; code; functions. -/
import Derived.Test.YtipdancojcdioaaEvM
namespace Go.Ev
set_option linter.unusedVariables false
set_option linter.unusedSimpArgs false
open Go

instance : Inhabited AIns := ⟨⟨none, none, .lenC 0⟩⟩

section
variable {P : Program} {callF : CallF} {md : Nat → Nat}

theorem getD_agree (l : Array Bool) (k : Nat) (h : k < l.size) (a b : Bool) : l.getD k a = l.getD k b := by
  simp [h]

theorem listed_of_mask {n : Nat} {deps : List (List Nat)} {listed : Nat → Bool} (hlen : deps.length = n) (hlt : ∀ (i : Nat) (l : List Nat), deps[i]? = some l → ∀ d ∈ l, d < i)
    (hcl : ∀ (k : Nat), listed k = true → ∀ (l : List Nat), deps[k]? = some l → ∀ d ∈ l, listed d = true) (p : Nat) :
    ∀ (i : Nat) (l : List Nat), deps[i]? = some l → (∀ d ∈ l, listed d = true) → ((masks deps []).getD i 0).testBit p = true → listed p = true := by
  intro i
  induction i using Nat.strongRecOn with
  | _ i ih =>
    intro l hl hall hb
    obtain ⟨d, hd, h⟩ := masks_spec deps [] i p l hl (fun d hd => by simpa using hlt i l hl d hd) (by simpa using hb)
    rcases h with rfl | h
    · exact hall _ hd
    · have hdi := hlt i l hl d hd
      have hin : i < deps.length := by
        rcases Nat.lt_or_ge i deps.length with h' | h'
        · exact h'
        · rw [List.getElem?_eq_none h'] at hl; simp at hl
      have hdl : deps[d]? = some deps[d] := List.getElem?_eq_getElem (by omega)
      exact ih d hdi _ hdl (hcl d (hall d hd) _ hdl) h

theorem any_sound (hcall : CallOk P callF) (hmd : CallCls callF md) (hmo : CallMono callF) {conf : List Nat} {h0 : Heap} {nt : Nat} {ops : Array Oper} {is : List AIns} {Q : Exit → Act → World → Prop}
    (hc : cInss P nt ops ops.toList = some is) (hok : drawOkD md conf is (ops.toList.map depsOf) = true) :
    ∀ (m : Nat) (L : List Nat) (listed : Array Bool) {e e' : Env} {a : Act} {j : JM} {H H' : Heap} {w : World}, L.length = m → listed.size = ops.size →
      L = (List.range ops.size).filter (fun k => !listed.getD k true) →
      (∀ (k : Nat), listed.getD k false = true → ∀ (l : List Nat), (ops.toList.map depsOf)[k]? = some l → ∀ d ∈ l, listed.getD d false = true) →
      WR j H w → St j nt e a → runIns callF (L.map fun k => is.getD k default) e H = some (e', H') → h0.next ≤ H.next → OkConf conf h0 e' H' → Stays conf (L.map fun k => is.getD k default) →
      (∀ e'' j' a' w', Eqv e' e'' → Trans j H w j' H' w' → St j' nt e'' a' → Q .normal a' w') → wpAny P .any ops Q m listed a w := by
  have hlen := inss_length hc
  simp only [Array.length_toList] at hlen
  have hdl : (ops.toList.map depsOf).length = ops.size := by simp
  have hspec := fun k hk => allBelow_spec hok k hk
  have hlt : ∀ (i : Nat) (l : List Nat), (ops.toList.map depsOf)[i]? = some l → ∀ d ∈ l, d < i := by
    intro i l hl d hd
    have hi : i < is.length := by
      rcases Nat.lt_or_ge i is.length with h' | h'
      · exact h'
      · rw [List.getElem?_eq_none (by omega)] at hl; simp at hl
    have := hspec i hi
    simp only [Bool.and_eq_true, List.getD, hl, Option.getD_some, List.all_eq_true, Nat.blt_eq] at this
    exact this.1 d hd
  have hdeps : ∀ (i : Nat) (o : Oper), ops[i]? = some o → (ops.toList.map depsOf)[i]? = some (depsOf o) := by
    intro i o ho
    rw [List.getElem?_map, Array.getElem?_toList, ho]
    rfl
  have hsorted : ∀ listed : Array Bool, ((List.range ops.size).filter (fun k => !listed.getD k true)).Pairwise (· < ·) := fun listed => (List.pairwise_lt_range).filter _
  have hready : ∀ listed : Array Bool, Region.ready .any ops listed = ((List.range ops.size).filter (fun k => !listed.getD k true)).filter (fun i => ((ops[i]?).map (·.after.all fun e => !Region.binds .any e || listed.getD e.on false)).getD false) := by
    intro listed
    unfold Region.ready
    rw [List.filter_filter]
    congr 1
    funext i
    rw [Bool.and_comm]
  have hq : ∀ (listed : Array Bool) (i : Nat) (o : Oper), ops[i]? = some o → (((ops[i]?).map (·.after.all fun e => !Region.binds .any e || listed.getD e.on false)).getD false = true ↔ ∀ d ∈ depsOf o, listed.getD d false = true) := by
    intro listed i o ho
    simp only [ho, Option.map_some, Option.getD_some, depsOf, List.mem_map, List.mem_filter, Array.mem_toList_iff, Array.all_eq_true_iff_forall_mem, Bool.or_eq_true, Bool.not_eq_true']
    constructor
    · rintro h d ⟨ed, ⟨h1, h2⟩, rfl⟩
      rcases h ed h1 with h3 | h3
      · rw [h2] at h3; simp at h3
      · exact h3
    · intro h ed h1
      cases hb : Region.binds .any ed
      · exact .inl rfl
      · exact .inr (h ed.on ⟨ed, ⟨h1, hb⟩, rfl⟩)
  intro m
  induction m with
  | zero =>
    intro L listed e e' a j H H' w hL hsz hLe hcl hw hs hr hn0 hcf hsty hQ
    have hnil : L = [] := List.eq_nil_of_length_eq_zero hL
    rw [hnil] at hr
    simp only [List.map_nil, runIns, Option.some.injEq, Prod.mk.injEq] at hr
    obtain ⟨rfl, rfl⟩ := hr
    refine ⟨?_, hQ e j a w (Eqv.refl _) (Trans.refl hw) hs⟩
    rw [hready, ← hLe, hnil]
    rfl
  | succ m ih =>
    intro L listed e e' a j H H' w hL hsz hLe hcl hw hs hr hn0 hcf hsty hQ
    refine ⟨fun hemp => ?_, fun i hi => ?_⟩
    · -- something is always ready
      exfalso
      cases hLc : L with
      | nil => simp [hLc] at hL
      | cons l0 rest =>
        have hmem : l0 ∈ (List.range ops.size).filter (fun k => !listed.getD k true) := by rw [← hLe, hLc]; simp
        have hl0 := (List.mem_filter.1 hmem).1
        rw [List.mem_range] at hl0
        have ho : ops[l0]? = some ops[l0] := Array.getElem?_eq_getElem hl0
        have hsrt := hsorted listed
        rw [← hLe, hLc, List.pairwise_cons] at hsrt
        have hin : l0 ∈ Region.ready .any ops listed := by
          rw [hready]
          refine List.mem_filter.2 ⟨hmem, (hq listed l0 _ ho).2 (fun d hd => ?_)⟩
          have hdl0 := hlt l0 _ (hdeps l0 _ ho) d hd
          rw [getD_agree listed d (by omega) false true]
          cases hbv : listed.getD d true with
          | true => rfl
          | false =>
            have : d ∈ L := by rw [hLe]; exact List.mem_filter.2 ⟨List.mem_range.2 (by omega), by simp [hbv]⟩
            rw [hLc] at this
            rcases List.mem_cons.1 this with h | h
            · omega
            · have := hsrt.1 d h; omega
        rw [hemp] at hin
        simp at hin
    · rw [hready, ← hLe] at hi
      obtain ⟨hiL, hiq⟩ := List.mem_filter.1 hi
      obtain ⟨pre, post, hsplit⟩ := List.append_of_mem hiL
      have hir : i < ops.size := by
        have : i ∈ (List.range ops.size).filter (fun k => !listed.getD k true) := by rw [← hLe]; exact hiL
        exact List.mem_range.1 (List.mem_filter.1 this).1
      have ho : ops[i]? = some ops[i] := Array.getElem?_eq_getElem hir
      have hdi := (hq listed i _ ho).1 hiq
      have hsrt := hsorted listed
      rw [← hLe, hsplit, List.pairwise_append, List.pairwise_cons] at hsrt
      have hpre : ∀ p ∈ pre, p < i := fun p hp => hsrt.2.2 p hp i (by simp)
      have hpost : ∀ p ∈ post, i < p := fun p hp => hsrt.2.1.1 p hp
      have hcomm : ∀ x ∈ pre.map (fun k => is.getD k default), commutes md x (is.getD i default) = true ∨ softly conf x (is.getD i default) = true := by
        intro x hx
        obtain ⟨p, hp, rfl⟩ := List.mem_map.1 hx
        have hpi := hpre p hp
        have h1 := hspec i (by omega)
        simp only [Bool.and_eq_true] at h1
        have h2 := allBelow_spec h1.2 p hpi
        simp only [Bool.or_eq_true] at h2
        rcases h2 with h2 | h2
        · exfalso
          have hlp := listed_of_mask (n := ops.size) (listed := fun k => listed.getD k false) hdl hlt hcl p i _ (hdeps i _ ho) hdi h2
          have : p ∈ (List.range ops.size).filter (fun k => !listed.getD k true) := by rw [← hLe, hsplit]; simp [hp]
          have := (List.mem_filter.1 this).2
          rw [getD_agree listed p (by omega) true false, hlp] at this
          simp at this
        · have hp1 : is[p]? = some is[p] := List.getElem?_eq_getElem (by omega)
          have hi1 : is[i]? = some is[i] := List.getElem?_eq_getElem (by omega)
          simp only [hp1, hi1] at h2
          simpa [List.getD, hp1, hi1, Bool.or_eq_true] using h2
      rw [hsplit, List.map_append, List.map_cons] at hr hsty
      obtain ⟨e1, H1, e'', hst, hrest, heq⟩ := bubbleD hmd hmo hcomm hr hn0 hcf hsty
      have hil : i < is.length := by omega
      have hid : is.getD i default = is[i] := by simp [List.getD, List.getElem?_eq_getElem hil]
      rw [hid] at hst
      obtain ⟨o, ho', hci⟩ := inss_get hc i is[i] (List.getElem?_eq_getElem hil)
      rw [Array.getElem?_toList, ho] at ho'
      obtain rfl := Option.some.inj ho'
      have hL' : pre ++ post = (List.range ops.size).filter (fun k => !(listed.setIfInBounds i true).getD k true) := by
        have hf : (List.range ops.size).filter (fun k => !(listed.setIfInBounds i true).getD k true) = L.filter (fun k => k ≠ i) := by
          rw [hLe, List.filter_filter]
          congr 1
          funext k
          simp only [Array.getD_eq_getD_getElem?, Array.getElem?_setIfInBounds]
          by_cases hk : i = k
          · subst hk
            have hlt3 : i < listed.size := by omega
            simp [hlt3]
          · simp [hk, Ne.symm hk]
        rw [hf, hsplit, List.filter_append, List.filter_cons]
        simp only [ne_eq, not_true_eq_false, decide_false, Bool.false_eq_true, if_false]
        rw [List.filter_eq_self.2 (fun p hp => by have := hpre p hp; simp; omega), List.filter_eq_self.2 (fun p hp => by have := hpost p hp; simp; omega)]
      have hcl' : ∀ (k : Nat), (listed.setIfInBounds i true).getD k false = true → ∀ (l : List Nat), (ops.toList.map depsOf)[k]? = some l → ∀ d ∈ l, (listed.setIfInBounds i true).getD d false = true := by
        intro k hk l hl d hd
        have up : ∀ d, listed.getD d false = true → (listed.setIfInBounds i true).getD d false = true := by
          intro d hd
          simp only [Array.getD_eq_getD_getElem?, Array.getElem?_setIfInBounds] at hd ⊢
          by_cases hid : i = d
          · subst hid
            have hlt3 : i < listed.size := by omega
            simp [hlt3]
          · simpa [hid] using hd
        by_cases hki : k = i
        · subst hki
          rw [hdeps k _ ho] at hl
          obtain rfl := Option.some.inj hl
          exact up d (hdi d hd)
        · refine up d (hcl k ?_ l hl d hd)
          simp only [Array.getD_eq_getD_getElem?, Array.getElem?_setIfInBounds] at hk ⊢
          simpa [Ne.symm hki] using hk
      have hlen' : (pre ++ post).length = m := by
        have := hL
        rw [hsplit] at this
        simp at this ⊢
        omega
      have key := ins_sound (Q := Q) (K := wpAny P .any ops Q m (listed.setIfInBounds i true)) hcall hci hw hs hst (fun j' a' w' htr hs' =>
        ih (pre ++ post) (listed.setIfInBounds i true) hlen' (by simpa using hsz) hL' hcl' htr.wr hs' (by rw [List.map_append]; exact hrest) (Nat.le_trans hn0 htr.next) (hcf.eqv heq) (by rw [List.map_append]; exact hsty.remove)
          (fun e3 j3 a3 w3 h3 htr3 hs3 => hQ e3 j3 a3 w3 (heq.trans h3) (htr.trans htr3) hs3))
      unfold wpOp
      simp only [ho]
      split
      · rename_i hwant; rw [if_pos hwant] at key; exact .inl key
      · rename_i hwant; rw [if_neg hwant] at key; exact key


/-! ### code -/
def exRel : AEx → Exit → Prop
  | .normal, .normal => True
  | .exit a, .exit b => a = b
  | .ret, .ret => True
  | _, _ => False

def CPost (j : JM) (H : Heap) (w : World) (nt : Nat) (ex : AEx) (e' : Env) (H' : Heap) (x : Exit) (a' : Act) (w' : World) : Prop :=
  exRel ex x ∧ ∃ j', Trans j H w j' H' w' ∧ St j' nt e' a'

/-- the code, in the evaluator's form -/
def cC (P : Program) (md : Nat → Nat) (nt : Nat) : Code → Option ACode
  | .skip => some .skip
  | .region _ ops draw => match cInss P nt ops ops.toList with
    | some is => if draw then
        let deps := ops.toList.map depsOf
        let conf := confOf md is deps
        if drawOkD md conf is deps && staysB conf is then some (if conf.isEmpty then .region is else .regionD is conf) else none
      else some (.region is)
    | none => none
  | .seq a b => match cC P md nt a, cC P md nt b with
    | some a, some b => some (.seq a b)
    | _, _ => none
  | .cond c a b => match cOpd c, cC P md nt a, cC P md nt b with
    | some c, some a, some b => some (.cond c a b)
    | _, _, _ => none
  | .block id b => match cC P md nt b with
    | some b => some (.block id b)
    | none => none
  | .loop b => match cC P md nt b with
    | some b => some (.loop b)
    | none => none
  | .exit id => some (.exit id)
  | .scope b => cC P md nt b
  | .label _ => some .skip
  | .ret => some .ret
  | _ => none

theorem rounds_mono {b : Code} {Q Q' : Exit → Act → World → Prop} (hq : ∀ x a w, Q x a w → Q' x a w) : ∀ {n : Nat} {a : Act} {w : World}, Code.rounds P b Q n a w → Code.rounds P b Q' n a w
  | 0, _, _, h => h.elim
  | n + 1, a, w, h => by
    rw [rounds_succ] at h ⊢
    refine wp_mono h ?_
    intro x a1 w1 h1
    cases x
    case normal => exact rounds_mono hq h1
    all_goals exact hq _ _ _ h1

theorem code_sound (hcall : CallOk P callF) (hmd : CallCls callF md) (hmo : CallMono callF) (hmix : P.follows .mixedOrders = true) {fuel nt : Nat} : ∀ {c : Code} {c' : ACode} {e e' : Env} {a : Act} {j : JM} {H H' : Heap} {w : World} {ex : AEx},
    cC P md nt c = some c' → WR j H w → St j nt e a → evC callF fuel c' e H = some (ex, e', H') → c.wp P (CPost j H w nt ex e' H') a w := by
  intro c
  induction c with
  | skip =>
    intro c' e e' a j H H' w ex hc hw hs hr
    simp only [cC, Option.some.injEq] at hc
    subst hc
    simp only [evC, Option.some.injEq, Prod.mk.injEq] at hr
    obtain ⟨rfl, rfl, rfl⟩ := hr
    exact wp_skip ⟨trivial, j, Trans.refl hw, hs⟩
  | label l =>
    intro c' e e' a j H H' w ex hc hw hs hr
    simp only [cC, Option.some.injEq] at hc
    subst hc
    simp only [evC, Option.some.injEq, Prod.mk.injEq] at hr
    obtain ⟨rfl, rfl, rfl⟩ := hr
    exact wp_label ⟨trivial, j, Trans.refl hw, hs⟩
  | ret =>
    intro c' e e' a j H H' w ex hc hw hs hr
    simp only [cC, Option.some.injEq] at hc
    subst hc
    simp only [evC, Option.some.injEq, Prod.mk.injEq] at hr
    obtain ⟨rfl, rfl, rfl⟩ := hr
    exact wp_ret ⟨trivial, j, Trans.refl hw, hs⟩
  | exit id =>
    intro c' e e' a j H H' w ex hc hw hs hr
    simp only [cC, Option.some.injEq] at hc
    subst hc
    simp only [evC, Option.some.injEq, Prod.mk.injEq] at hr
    obtain ⟨rfl, rfl, rfl⟩ := hr
    exact wp_exit ⟨rfl, j, Trans.refl hw, hs⟩
  | region id ops draw =>
    intro c' e e' a j H H' w ex hc hw hs hr
    simp only [cC] at hc
    split at hc
    · rename_i is his
      have fin : ∀ (c'' : ACode), c'' = .region is → evC callF fuel c'' e H = some (ex, e', H') →
          runIns callF is e H = some (e', H') ∧ ex = .normal := by
        rintro _ rfl h
        simp only [evC] at h
        split at h
        · rename_i e1 h1 h2
          simp only [Option.some.injEq, Prod.mk.injEq] at h
          obtain ⟨rfl, rfl, rfl⟩ := h
          exact ⟨h2, rfl⟩
        · simp at h
      cases draw with
      | false =>
        simp only [Bool.false_eq_true, if_false, Option.some.injEq] at hc
        obtain ⟨h1, rfl⟩ := fin c' hc.symm hr
        refine wp_region_list (region_sound hcall his hw hs h1 (fun j' a' w' htr hs' => ⟨trivial, j', htr, hs'⟩))
      | true =>
        simp only [if_true] at hc
        obtain ⟨hok, hc⟩ := if_some hc
        rw [Bool.and_eq_true] at hok
        have hlen := inss_length his
        simp only [Array.length_toList] at hlen
        refine wp_region_any hmix ?_
        have hall : (List.range ops.size).map (fun k => is.getD k default) = is := by
          apply List.ext_getElem?
          intro i
          by_cases hi : i < is.length
          · rw [List.getElem?_map, List.getElem?_range (by omega), Option.map_some]
            simp [List.getD, List.getElem?_eq_getElem hi]
          · rw [List.getElem?_eq_none (by simp; omega), List.getElem?_eq_none (by omega)]
        have go : ∀ (conf : List Nat) (H1 H2 : Heap), drawOkD md conf is (ops.toList.map depsOf) = true → Stays conf is → WR j H1 { w with drawn := w.drawn + 1 } → runIns callF is e H1 = some (e', H2) → OkConf conf H1 e' H2 →
            (∀ j' w', Trans j H1 { w with drawn := w.drawn + 1 } j' H2 w' → Trans j H w j' H' w') → ex = .normal → wpAny P .any ops (CPost j H w nt ex e' H') ops.size (Array.replicate ops.size false) a { w with drawn := w.drawn + 1 } := by
          intro conf H1 H2 hk hst hwd h1 hcf htrans hex
          subst hex
          refine any_sound (e' := e') (H' := H2) (h0 := H1) (conf := conf) hcall hmd hmo his hk ops.size (List.range ops.size) (Array.replicate ops.size false) (by simp) (by simp) ?_ ?_ hwd hs ?_ (Nat.le_refl _) hcf ?_ ?_
          · rw [List.filter_eq_self.2]
            intro k hk
            rw [List.mem_range] at hk
            simp [hk]
          · intro k hk
            simp only [Array.getD_eq_getD_getElem?, Array.getElem?_replicate] at hk
            split at hk <;> simp at hk
          · rw [hall]; exact h1
          · rw [hall]; exact hst
          · intro e2 j' a' w' heq htr hs'
            exact ⟨trivial, j', htrans j' w' htr, ⟨fun t v hv => hs'.er t v ((heq t).symm.trans hv), hs'.size, hs'.defers⟩⟩
        have hwd : ∀ l, WR j (H.withLog l) { w with drawn := w.drawn + 1 } := fun l =>
          have h := hw.of_heap (w' := { w with drawn := w.drawn + 1 }) (Nat.le_refl _) (fun _ _ _ _ _ => rfl)
          ⟨h.dom, h.hdom, h.cell, h.own, h.apart⟩
        have hc := Option.some.inj hc
        split at hc
        · rename_i hemp
          obtain ⟨h1, hex⟩ := fin c' hc.symm hr
          have hnil : confOf md is (ops.toList.map depsOf) = [] := List.isEmpty_iff.1 hemp
          exact go [] H H' (by rw [← hnil]; exact hok.1) (by rw [← hnil]; exact stays_of hok.2) (hwd H.log) h1 (fun t ht => by simp at ht)
            (fun j' w' htr => ⟨htr.ext, htr.wr, htr.ro, htr.next, htr.os, htr.tape, htr.output, htr.size, htr.keep, htr.grow⟩) hex
        · subst hc
          simp only [evC] at hr
          split at hr
          · rename_i e1 h1 hrun
            obtain ⟨hck, hr⟩ := bif_some hr
            simp only [Option.some.injEq, Prod.mk.injEq] at hr
            obtain ⟨hex, rfl, rfl⟩ := hr
            exact go _ (H.withLog []) h1 hok.1 (stays_of hok.2) (hwd []) hrun (okConf_of rfl hck)
              (fun j' w' htr => ⟨htr.ext, ⟨htr.wr.dom, htr.wr.hdom, htr.wr.cell, htr.wr.own, htr.wr.apart⟩, htr.ro, htr.next, htr.os, htr.tape, htr.output, htr.size, htr.keep, htr.grow⟩) hex.symm
          · simp at hr
    · simp at hc
  | seq x y ihx ihy =>
    intro c' e e' a j H H' w ex hc hw hs hr
    simp only [cC] at hc
    split at hc
    · rename_i x' y' hx hy
      obtain rfl := Option.some.inj hc
      simp only [evC] at hr
      apply wp_seq
      split at hr
      · rename_i e1 h1 hx1
        refine wp_mono (ihx hx hw hs hx1) ?_
        rintro x1 a1 w1 ⟨hex, j1, htr, hs1⟩
        cases x1 <;> simp only [exRel] at hex
        refine wp_mono (ihy hy htr.wr hs1 hr) ?_
        rintro x2 a2 w2 ⟨hex2, j2, htr2, hs2⟩
        exact ⟨hex2, j2, htr.trans htr2, hs2⟩
      · rename_i hne
        refine wp_mono (ihx hx hw hs hr) ?_
        rintro x1 a1 w1 ⟨hex, j1, htr, hs1⟩
        cases x1 <;> cases ex <;> simp only [exRel] at hex
        · exact absurd hr (hne _ _)
        · exact ⟨hex, j1, htr, hs1⟩
        · exact ⟨trivial, j1, htr, hs1⟩
    · simp at hc
  | cond c x y ihx ihy =>
    intro c' e e' a j H H' w ex hc hw hs hr
    simp only [cC] at hc
    split at hc
    · rename_i c1 x' y' hc1 hx hy
      obtain rfl := Option.some.inj hc
      simp only [evC] at hr
      split at hr
      · rename_i t ht
        have hv := opd_sound hs.er hc1 ht
        simp only [VR] at hv
        cases t with
        | true => exact wp_cond_true hv (ihx hx hw hs hr)
        | false => exact wp_cond_false hv (ihy hy hw hs hr)
      · rename_i t ht
        have hv := opd_sound hs.er hc1 ht
        simp only [VR] at hv
        cases t with
        | true => exact wp_cond_true hv (ihx hx hw hs hr)
        | false => exact wp_cond_false hv (ihy hy hw hs hr)
      · simp at hr
    · simp at hc
  | block id b ih =>
    intro c' e e' a j H H' w ex hc hw hs hr
    simp only [cC] at hc
    split at hc
    · rename_i b' hb
      obtain rfl := Option.some.inj hc
      simp only [evC] at hr
      apply wp_block
      split at hr
      · rename_i id' e1 h1 hb1
        refine wp_mono (ih hb hw hs hb1) ?_
        rintro x1 a1 w1 ⟨hex, j1, htr, hs1⟩
        cases x1 <;> simp only [exRel] at hex
        subst hex
        simp only [cond_eq_ite, Nat.beq_eq] at hr
        simp only [Exit.inBlock]
        split at hr
        · rename_i hid
          simp only [Option.some.injEq, Prod.mk.injEq] at hr
          obtain ⟨rfl, rfl, rfl⟩ := hr
          rw [if_pos hid]
          exact ⟨trivial, j1, htr, hs1⟩
        · rename_i hid
          simp only [Option.some.injEq, Prod.mk.injEq] at hr
          obtain ⟨rfl, rfl, rfl⟩ := hr
          rw [if_neg hid]
          exact ⟨rfl, j1, htr, hs1⟩
      · rename_i hne
        refine wp_mono (ih hb hw hs hr) ?_
        rintro x1 a1 w1 ⟨hex, j1, htr, hs1⟩
        cases x1 <;> cases ex <;> simp only [exRel] at hex
        · exact ⟨trivial, j1, htr, hs1⟩
        · exact absurd hr (hne _ _ _)
        · exact ⟨trivial, j1, htr, hs1⟩
    · simp at hc
  | loop b ih =>
    intro c' e e' a j H H' w ex hc hw hs hr
    simp only [cC] at hc
    split at hc
    · rename_i b' hb
      obtain rfl := Option.some.inj hc
      simp only [evC] at hr
      refine wp_loop_rounds fuel ?_
      have key : ∀ (n : Nat) {e a j H w}, WR j H w → St j nt e a → loopN (fun e h => evC callF fuel b' e h) n e H = some (ex, e', H') → Code.rounds P b (CPost j H w nt ex e' H') n a w := by
        intro n
        induction n with
        | zero => intro e a j H w _ _ h; simp [loopN] at h
        | succ n ihn =>
          intro e a j H w hw hs h
          simp only [loopN] at h
          rw [rounds_succ]
          split at h
          · rename_i e1 h1 hb1
            refine wp_mono (ih hb hw hs hb1) ?_
            rintro x1 a1 w1 ⟨hex, j1, htr, hs1⟩
            cases x1 <;> simp only [exRel] at hex
            have := ihn htr.wr hs1 h
            refine rounds_mono ?_ this
            rintro x2 a2 w2 ⟨hex2, j2, htr2, hs2⟩
            exact ⟨hex2, j2, htr.trans htr2, hs2⟩
          · rename_i hne
            refine wp_mono (ih hb hw hs h) ?_
            rintro x1 a1 w1 ⟨hex, j1, htr, hs1⟩
            cases x1 <;> cases ex <;> simp only [exRel] at hex
            · exact absurd h (hne _ _)
            · exact ⟨hex, j1, htr, hs1⟩
            · exact ⟨trivial, j1, htr, hs1⟩
      exact key fuel hw hs hr
    · simp at hc
  | scope b ih =>
    intro c' e e' a j H H' w ex hc hw hs hr
    simp only [cC] at hc
    refine wp_scope_straight (wp_mono (ih hc hw hs hr) ?_)
    rintro x1 a1 w1 h
    cases x1
    case goto l => obtain ⟨hex, _⟩ := h; cases ex <;> simp [exRel] at hex
    all_goals exact h
  | goto l => intro c' e e' a j H H' w ex hc; simp [cC] at hc
  | refuse l => intro c' e e' a j H H' w ex hc; simp [cC] at hc
  | rangeFunc f p x y => intro c' e e' a j H H' w ex hc; simp [cC] at hc

end
end Go.Ev
