/- What evaluating turns of the heap: blocks that are not in the log are as they were. Loads whose order against writers is open. -/
import Derived.Test.YtipdancojcdioaaEvL
namespace Go.Ev
set_option linter.unusedVariables false
set_option linter.unusedSimpArgs false
open Go

structure Mono (h h' : Heap) : Prop where
  next : h.next ≤ h'.next
  same : ∃ pre, h'.log = pre ++ h.log ∧ ∀ b, b < h.next → b ∉ pre → h'.get b = h.get b

theorem Mono.refl (h : Heap) : Mono h h := ⟨Nat.le_refl _, [], rfl, fun _ _ _ => rfl⟩

theorem Mono.trans {a b c : Heap} (x : Mono a b) (y : Mono b c) : Mono a c := by
  obtain ⟨n1, p, e1, s1⟩ := x
  obtain ⟨n2, q, e2, s2⟩ := y
  refine ⟨Nat.le_trans n1 n2, q ++ p, by rw [e2, e1, List.append_assoc], fun k hk hn => ?_⟩
  simp only [List.mem_append, not_or] at hn
  rw [s2 k (Nat.lt_of_lt_of_le hk n1) hn.1, s1 k hk hn.2]

theorem Mono.push (h : Heap) (cs : List AV) : Mono h (h.push cs) :=
  ⟨by simp, [], rfl, fun b hb _ => by simp; omega⟩

theorem Mono.setTo (h : Heap) (b : Nat) (x : Option (List AV)) : Mono h (h.setTo b x) :=
  ⟨by simp, [b], rfl, fun k _ hn => by simp at hn; simp [hn]⟩

/-- a block that is not in the log between -/
theorem Mono.keeps {h h1 h' : Heap} (x : Mono h h1) (y : Mono h1 h') {b : Nat} (hb : b < h.next) (hn : b ∉ h'.log) : h1.get b = h.get b := by
  obtain ⟨_, p, e1, s1⟩ := x
  obtain ⟨_, q, e2, _⟩ := y
  refine s1 b hb (fun hp => hn ?_)
  rw [e2, e1]
  simp [hp]

theorem mono_storeAt {h h' : Heap} {b off : Nat} {vs : List AV} (e : storeAt h b off vs = some h') : Mono h h' := by
  unfold storeAt at e
  obtain ⟨_, e⟩ := bif_some e
  split at e
  · obtain ⟨_, e⟩ := bif_some e
    obtain rfl := Option.some.inj e
    exact Mono.setTo _ _ _
  · simp at e

theorem mono_appendTo {h h' : Heap} {size bytes n : Nat} {x v : AV} {new : List AV} (e : appendTo h size bytes x new n = some (v, h')) : Mono h h' := by
  unfold appendTo at e
  split at e
  · simp only [cond_eq_ite] at e
    split at e
    · simp only [Option.some.injEq, Prod.mk.injEq] at e; obtain ⟨_, rfl⟩ := e; exact Mono.refl _
    · split at e
      · simp only [Option.some.injEq, Prod.mk.injEq] at e; obtain ⟨_, rfl⟩ := e; exact Mono.push _ _
      · simp at e
  · simp only [cond_eq_ite] at e
    split at e
    · simp only [Option.some.injEq, Prod.mk.injEq] at e; obtain ⟨_, rfl⟩ := e; exact Mono.refl _
    · split at e
      · split at e
        · split at e
          · simp only [Option.some.injEq, Prod.mk.injEq] at e; obtain ⟨_, rfl⟩ := e; exact Mono.push _ _
          · simp at e
        · split at e
          · simp only [Option.some.injEq, Prod.mk.injEq] at e; obtain ⟨_, rfl⟩ := e; exact (Mono.setTo _ _ _).trans (Mono.push _ _)
          · simp at e
        · simp at e
      · simp at e
  · simp at e

def CallMono (callF : CallF) : Prop := ∀ f args h v h', callF f args h = some (v, h') → Mono h h'

section
variable {callF : CallF} {md : Nat → Nat}

theorem mono_run (hmd : CallCls callF md) (hmo : CallMono callF) {p : AOp} {e : Env} {h h' : Heap} {v : AV} (hr : p.run callF e h = some (v, h')) : Mono h h' := by
  by_cases h0 : p.cls md = 0
  · rw [(run_pure hmd h0 hr).1]; exact Mono.refl _
  by_cases h1 : p.cls md = 1
  · rw [run_reads hmd h1 hr]; exact Mono.refl _
  cases p
  case call f args =>
    simp only [AOp.run] at hr
    split at hr
    · exact hmo _ _ _ _ _ hr
    · simp at hr
  case callv x args =>
    obtain ⟨u, hu, h2⟩ := on1_some hr
    cases u <;> (try simp at h2; done)
    simp only at h2
    split at h2
    · exact hmo _ _ _ _ _ h2
    · simp at h2
  case store n x y =>
    obtain ⟨a, b, ha, hb, h2⟩ := opt2_ext.1 hr
    cases a <;> (try simp at h2; done)
    simp only at h2
    obtain ⟨_, h2⟩ := bif_some h2
    split at h2
    · rename_i hs; simp only [Option.some.injEq, Prod.mk.injEq] at h2; obtain ⟨_, rfl⟩ := h2; exact mono_storeAt hs
    · simp at h2
  case alloc z =>
    simp only [AOp.run, Option.some.injEq, Prod.mk.injEq] at hr
    obtain ⟨_, rfl⟩ := hr
    exact Mono.push _ _
  case box x =>
    obtain ⟨u, hu, h2⟩ := on1_some hr
    obtain ⟨_, h2⟩ := bif_some h2
    simp only [Option.some.injEq, Prod.mk.injEq] at h2
    obtain ⟨_, rfl⟩ := h2
    exact Mono.push _ _
  case buildSl size n zero parts =>
    simp only [AOp.run] at hr
    split at hr
    · split at hr
      · obtain ⟨_, h2⟩ := bif_some hr
        simp only [Option.some.injEq, Prod.mk.injEq] at h2
        obtain ⟨_, rfl⟩ := h2
        exact Mono.push _ _
      · simp at hr
    · simp at hr
  case mkSl size bytes zero ln cap =>
    obtain ⟨a, b, ha, hb, h2⟩ := opt2_ext.1 hr
    split at h2
    · obtain ⟨_, h2⟩ := bif_some h2
      simp only [Option.some.injEq, Prod.mk.injEq] at h2
      obtain ⟨_, rfl⟩ := h2
      exact Mono.push _ _
    · simp at h2
  case append size bytes x y =>
    obtain ⟨a, b, ha, hb, h2⟩ := opt2_ext.1 hr
    split at h2
    · obtain ⟨_, h2⟩ := bif_some h2
      exact mono_appendTo h2
    · simp at h2
  case copy size x y =>
    obtain ⟨a, b, ha, hb, h2⟩ := opt2_ext.1 hr
    split at h2
    · split at h2
      · split at h2
        · split at h2
          · rename_i hs; simp only [Option.some.injEq, Prod.mk.injEq] at h2; obtain ⟨_, rfl⟩ := h2; exact mono_storeAt hs
          · simp at h2
        · simp only [Option.some.injEq, Prod.mk.injEq] at h2; obtain ⟨_, rfl⟩ := h2; exact Mono.refl _
        · simp at h2
      · simp at h2
    · simp at h2
  case toBytes x =>
    obtain ⟨u, hu, h2⟩ := on1_some hr
    cases u <;> (try simp at h2; done)
    simp only at h2
    obtain ⟨_, h2⟩ := bif_some h2
    simp only [Option.some.injEq, Prod.mk.injEq] at h2
    obtain ⟨_, rfl⟩ := h2
    exact Mono.push _ _
  all_goals (exfalso; simp [AOp.cls] at h0 h1)

theorem mono_val (hmd : CallCls callF md) (hmo : CallMono callF) {i : AIns} {e : Env} {h h' : Heap} {v : AV} (hv : i.val callF e h = some (v, h')) : Mono h h' := by
  unfold AIns.val at hv
  split at hv
  · exact mono_run hmd hmo hv
  · simp only [Option.some.injEq, Prod.mk.injEq] at hv; obtain ⟨_, rfl⟩ := hv; exact Mono.refl _
  · simp at hv

theorem mono_step (hmd : CallCls callF md) (hmo : CallMono callF) {i : AIns} {e e' : Env} {h h' : Heap} (hs : i.step callF e h = some (e', h')) : Mono h h' := by
  obtain ⟨v, hv, _⟩ := step_val.1 hs
  exact mono_val hmd hmo hv

theorem mono_ins (hmd : CallCls callF md) (hmo : CallMono callF) : ∀ {l : List AIns} {e e' : Env} {h h' : Heap}, runIns callF l e h = some (e', h') → Mono h h'
  | [], e, e', h, h', hs => by simp only [runIns, Option.some.injEq, Prod.mk.injEq] at hs; obtain ⟨_, rfl⟩ := hs; exact Mono.refl _
  | i :: l, e, e', h, h', hs => by
    simp only [runIns] at hs
    split at hs
    · rename_i e1 h1 h2
      exact (mono_step hmd hmo h2).trans (mono_ins hmd hmo hs)
    · simp at hs

theorem mono_log {h h' : Heap} (hm : Mono (h.withLog []) h') : Mono h (h'.withLog (h'.log ++ h.log)) := by
  obtain ⟨a, pre, e, s⟩ := hm
  simp at e
  exact ⟨a, h'.log, rfl, fun b hb hn => s b hb (by rw [← e]; exact hn)⟩

theorem mono_evC (hmd : CallCls callF md) (hmo : CallMono callF) {fuel : Nat} : ∀ {c : ACode} {e e' : Env} {h h' : Heap} {x : AEx}, evC callF fuel c e h = some (x, e', h') → Mono h h'
  | .skip, e, e', h, h', x, hr => by simp only [evC, Option.some.injEq, Prod.mk.injEq] at hr; obtain ⟨_, _, rfl⟩ := hr; exact Mono.refl _
  | .ret, e, e', h, h', x, hr => by simp only [evC, Option.some.injEq, Prod.mk.injEq] at hr; obtain ⟨_, _, rfl⟩ := hr; exact Mono.refl _
  | .exit _, e, e', h, h', x, hr => by simp only [evC, Option.some.injEq, Prod.mk.injEq] at hr; obtain ⟨_, _, rfl⟩ := hr; exact Mono.refl _
  | .region ins, e, e', h, h', x, hr => by
    simp only [evC] at hr
    split at hr
    · rename_i e1 h1 h2
      simp only [Option.some.injEq, Prod.mk.injEq] at hr
      obtain ⟨_, _, rfl⟩ := hr
      exact mono_ins hmd hmo h2
    · simp at hr
  | .regionD ins conf, e, e', h, h', x, hr => by
    simp only [evC] at hr
    split at hr
    · rename_i e1 h1 h2
      obtain ⟨_, hr⟩ := bif_some hr
      simp only [Option.some.injEq, Prod.mk.injEq] at hr
      obtain ⟨_, _, rfl⟩ := hr
      exact mono_log (mono_ins hmd hmo h2)
    · simp at hr
  | .seq a b, e, e', h, h', x, hr => by
    simp only [evC] at hr
    split at hr
    · rename_i e1 h1 h2
      exact (mono_evC hmd hmo h2).trans (mono_evC hmd hmo hr)
    · exact mono_evC hmd hmo hr
  | .cond c a b, e, e', h, h', x, hr => by
    simp only [evC] at hr
    split at hr
    · rename_i t _
      cases t
      · exact mono_evC hmd hmo hr
      · exact mono_evC hmd hmo hr
    · rename_i t _
      cases t
      · exact mono_evC hmd hmo hr
      · exact mono_evC hmd hmo hr
    · simp at hr
  | .block id b, e, e', h, h', x, hr => by
    simp only [evC] at hr
    split at hr
    · rename_i id' e1 h1 h2
      simp only [cond_eq_ite] at hr
      split at hr
      · simp only [Option.some.injEq, Prod.mk.injEq] at hr; obtain ⟨_, _, rfl⟩ := hr; exact mono_evC hmd hmo h2
      · simp only [Option.some.injEq, Prod.mk.injEq] at hr; obtain ⟨_, _, rfl⟩ := hr; exact mono_evC hmd hmo h2
    · exact mono_evC hmd hmo hr
  | .loop b, e, e', h, h', x, hr => by
    simp only [evC] at hr
    have key : ∀ (n : Nat) {e h}, loopN (fun e h => evC callF fuel b e h) n e h = some (x, e', h') → Mono h h' := by
      intro n
      induction n with
      | zero => intro e h hl; simp [loopN] at hl
      | succ n ih =>
        intro e h hl
        simp only [loopN] at hl
        split at hl
        · rename_i e1 h1 h2
          exact (mono_evC hmd hmo h2).trans (ih hl)
        · exact mono_evC hmd hmo hl
    exact key _ hr

theorem mono_body (hmd : CallCls callF md) (hmo : CallMono callF) {fuel : Nat} {F : AFunc} {args : List AV} {h h' : Heap} {v : AV} (hr : evBody callF fuel F args h = some (v, h')) : Mono h h' := by
  unfold evBody at hr
  split at hr
  · rename_i e h1 hev
    split at hr
    · simp only [Option.some.injEq, Prod.mk.injEq] at hr; obtain ⟨_, rfl⟩ := hr; exact mono_evC hmd hmo hev
    · simp at hr
  · rename_i e h1 hev
    split at hr
    · simp only [Option.some.injEq, Prod.mk.injEq] at hr; obtain ⟨_, rfl⟩ := hr; exact mono_evC hmd hmo hev
    · simp at hr
  · simp at hr

/-! ### loads whose order is open -/
def AIns.addr (i : AIns) : Option Nat := match i.op with
  | .load _ _ (.t a) => some a
  | _ => none

def inConf (conf : List Nat) (i : AIns) : Bool := match i.addr with
  | some t => conf.contains t
  | none => false

/-- one of the two is a load of a block that the region leaves alone -/
def softly (conf : List Nat) (x y : AIns) : Bool :=
  !dstIn x.dst y.uses && !dstIn y.dst x.uses && !sameDst x.dst y.dst && (inConf conf x || inConf conf y)

/-- behind such a load its address stays -/
def staysB (conf : List Nat) : List AIns → Bool
  | [] => true
  | p :: r => (match p.addr with
    | some t => !(conf.contains t) || (!(dstIn p.dst [t]) && r.all fun q => !(dstIn q.dst [t]))
    | none => true) && staysB conf r

def Stays (conf : List Nat) : List AIns → Prop
  | [] => True
  | p :: r => (∀ t, p.addr = some t → t ∈ conf → dstIn p.dst [t] = false ∧ ∀ q ∈ r, dstIn q.dst [t] = false) ∧ Stays conf r

theorem stays_of {conf : List Nat} : ∀ {l : List AIns}, staysB conf l = true → Stays conf l
  | [], _ => trivial
  | p :: r, h => by
    simp only [staysB, Bool.and_eq_true] at h
    refine ⟨fun t ht hc => ?_, stays_of h.2⟩
    have h1 := h.1
    simp only [ht] at h1
    simpa [hc, List.all_eq_true] using h1

theorem Stays.remove {conf : List Nat} {i : AIns} {post : List AIns} : ∀ {pre : List AIns}, Stays conf (pre ++ i :: post) → Stays conf (pre ++ post)
  | [], h => h.2
  | p :: pre, h => by
    refine ⟨fun t ht hc => ?_, Stays.remove h.2⟩
    obtain ⟨a, b⟩ := h.1 t ht hc
    refine ⟨a, fun q hq => b q ?_⟩
    simp only [List.append_eq, List.mem_append, List.mem_cons] at hq ⊢
    rcases hq with h | h
    · exact .inl h
    · exact .inr (.inr h)

theorem Stays.at {conf : List Nat} {i : AIns} {post : List AIns} : ∀ {pre : List AIns}, Stays conf (pre ++ i :: post) → ∀ t, i.addr = some t → t ∈ conf → dstIn i.dst [t] = false ∧ ∀ q ∈ post, dstIn q.dst [t] = false
  | [], h => h.1
  | _ :: _, h => Stays.at h.2

/-- what was found behind the region -/
def OkConf (conf : List Nat) (h0 : Heap) (e' : Env) (h' : Heap) : Prop :=
  ∀ t ∈ conf, ∀ b o, lk e' t = some (.ptr b o) → b < h0.next ∧ b ∉ h'.log

theorem okConf_of {e' : Env} {n : Nat} {h' : Heap} {h0 : Heap} (hn : h0.next = n) : ∀ {conf : List Nat}, okConf e' n h'.log conf = true → OkConf conf h0 e' h'
  | [], _ => fun t ht => by simp at ht
  | t0 :: r, h => by
    simp only [okConf, Bool.and_eq_true] at h
    intro t ht b o hl
    rcases List.mem_cons.1 ht with rfl | ht
    · have h1 := h.1
      simp only [hl, Bool.and_eq_true, List.all_eq_true, Bool.not_eq_true', Nat.blt_eq] at h1
      refine ⟨by omega, fun hb => ?_⟩
      have := h1.2 b hb
      simp at this
    · exact okConf_of hn h.2 t ht b o hl

theorem lk_kept : ∀ {l : List AIns} {e e' : Env} {h h' : Heap} {t : Nat}, runIns callF l e h = some (e', h') → (∀ q ∈ l, dstIn q.dst [t] = false) → lk e' t = lk e t
  | [], e, e', h, h', t, hs, _ => by simp only [runIns, Option.some.injEq, Prod.mk.injEq] at hs; obtain ⟨rfl, _⟩ := hs; rfl
  | i :: l, e, e', h, h', t, hs, hq => by
    simp only [runIns] at hs
    split at hs
    · rename_i e1 h1 h2
      rw [lk_kept hs (fun q hq' => hq q (by simp [hq']))]
      obtain ⟨v, _, rfl⟩ := step_val.1 h2
      exact put_on (hq i (by simp)) t (by simp)
    · simp at hs

theorem addr_uses {i : AIns} {t : Nat} (h : i.addr = some t) : t ∈ i.uses := by
  obtain ⟨d, g, op⟩ := i
  unfold AIns.addr at h
  split at h
  · rename_i n ag a ho
    simp only at ho
    subst ho
    obtain rfl := Option.some.inj h
    unfold AIns.uses
    cases g <;> simp [AOp.uses, Opd.uses]
  · simp at h

theorem dst_notin {d : Option Nat} {l : List Nat} {t : Nat} (h : dstIn d l = false) (ht : t ∈ l) : dstIn d [t] = false := by
  cases d with
  | none => rfl
  | some d =>
    simp only [dstIn] at h ⊢
    have : d ≠ t := by rintro rfl; simp [ht] at h
    simp [this]

/-- a load gives the same where its block is the same -/
theorem load_same {i : AIns} {t : Nat} (ha : i.addr = some t) {e : Env} {h h' h2 : Heap} {v : AV} (hv : i.val callF e h = some (v, h')) (hs : ∀ b o, lk e t = some (.ptr b o) → h2.get b = h.get b) :
    h' = h ∧ i.val callF e h2 = some (v, h2) := by
  obtain ⟨d, g, op⟩ := i
  unfold AIns.addr at ha
  split at ha
  · rename_i n ag a ho
    simp only at ho
    subst ho
    obtain rfl := Option.some.inj ha
    unfold AIns.val at hv ⊢
    split at hv
    · simp only [AOp.run, Opd.get] at hv ⊢
      cases hl : lk e a with
      | none => simp [hl, on1] at hv
      | some u =>
        simp only [hl, on1] at hv ⊢
        cases u <;> (try simp at hv; done)
        rename_i b o
        have hg := hs b o hl
        simp only [loadAt] at hv ⊢
        rw [hg]
        split at hv
        · rename_i cs hcs
          cases ag
          · simp only [cond_false] at hv ⊢
            split at hv
            · simp only [Option.some.injEq, Prod.mk.injEq] at hv; obtain ⟨rfl, rfl⟩ := hv; exact ⟨rfl, rfl⟩
            · simp at hv
          · simp only [cond_true, Option.some.injEq, Prod.mk.injEq] at hv ⊢
            obtain ⟨rfl, rfl⟩ := hv
            simp
        · simp at hv
    · simp only [Option.some.injEq, Prod.mk.injEq] at hv ⊢
      obtain ⟨rfl, rfl⟩ := hv
      simp
    · simp at hv
  · simp at ha

theorem inConf_addr {conf : List Nat} {i : AIns} (h : inConf conf i = true) : ∃ t, i.addr = some t ∧ t ∈ conf := by
  unfold inConf at h
  split at h
  · rename_i t ht; exact ⟨t, ht, by simpa using h⟩
  · simp at h

theorem swapD (hmd : CallCls callF md) (hmo : CallMono callF) {conf : List Nat} {x y : AIns} {r : List AIns} {h0 : Heap} {e e1 e2 e' : Env} {h h1 h2 h' : Heap} (hc : commutes md x y = true ∨ softly conf x y = true)
    (hx : x.step callF e h = some (e1, h1)) (hy : y.step callF e1 h1 = some (e2, h2)) (hr : runIns callF r e2 h2 = some (e', h'))
    (hm : h0.next ≤ h.next) (hok : OkConf conf h0 e' h')
    (hsx : ∀ t, x.addr = some t → t ∈ conf → dstIn x.dst [t] = false ∧ ∀ q ∈ r, dstIn q.dst [t] = false) (hsy : ∀ t, y.addr = some t → t ∈ conf → dstIn y.dst [t] = false ∧ ∀ q ∈ r, dstIn q.dst [t] = false) :
    ∃ e1' h1' e2', y.step callF e h = some (e1', h1') ∧ x.step callF e1' h1' = some (e2', h2) ∧ Eqv e2 e2' := by
  rcases hc with hc | hc
  · exact swap hmd hc hx hy
  have m1 := mono_step hmd hmo hx
  have m2 := mono_step hmd hmo hy
  have m3 := mono_ins hmd hmo hr
  simp only [softly, Bool.and_eq_true, Bool.not_eq_true', Bool.or_eq_true] at hc
  obtain ⟨⟨⟨d1, d2⟩, d3⟩, hcl⟩ := hc
  obtain ⟨vx, hvx, rfl⟩ := step_val.1 hx
  obtain ⟨vy, hvy, rfl⟩ := step_val.1 hy
  rw [val_on (put_on d1)] at hvy
  have fin : ∀ h1', y.val callF e h = some (vy, h1') → x.val callF e h1' = some (vx, h2) → ∃ e1' h1' e2', y.step callF e h = some (e1', h1') ∧ x.step callF e1' h1' = some (e2', h2) ∧ Eqv (putE (putE e x.dst vx) y.dst vy) e2' := by
    intro h1' a b
    refine ⟨_, h1', _, step_val.2 ⟨vy, a, rfl⟩, step_val.2 ⟨vx, ?_, rfl⟩, put_swap d3⟩
    rw [val_on (put_on d2)]
    exact b
  rcases hcl with hcl | hcl
  · obtain ⟨t, ht, htc⟩ := inConf_addr hcl
    obtain ⟨s1, s2⟩ := hsx t ht htc
    have hlk : lk e' t = lk e t := by
      rw [lk_kept hr s2]
      have a1 : lk (putE (putE e x.dst vx) y.dst vy) t = lk (putE e x.dst vx) t := put_on (dst_notin d2 (addr_uses ht)) t (by simp)
      rw [a1]
      exact put_on s1 t (by simp)
    obtain ⟨rfl, hx2⟩ := load_same (h2 := h2) ht hvx (fun b o hl => by
      have := hok t htc b o (hlk.trans hl)
      exact (m1.trans m2).keeps m3 (by omega) this.2)
    exact fin _ hvy hx2
  · obtain ⟨t, ht, htc⟩ := inConf_addr hcl
    obtain ⟨s1, s2⟩ := hsy t ht htc
    have hlk : lk e' t = lk e t := by
      rw [lk_kept hr s2]
      have a1 : lk (putE (putE e x.dst vx) y.dst vy) t = lk (putE e x.dst vx) t := put_on s1 t (by simp)
      rw [a1]
      exact put_on (dst_notin d1 (addr_uses ht)) t (by simp)
    obtain ⟨rfl, hy2⟩ := load_same (h2 := h) ht hvy (fun b o hl => by
      have := hok t htc b o (hlk.trans hl)
      exact (m1.keeps (m2.trans m3) (by omega) this.2).symm)
    exact fin _ hy2 hvx

theorem OkConf.eqv {conf : List Nat} {h0 : Heap} {e e' : Env} {h' : Heap} (h : OkConf conf h0 e h') (hE : Eqv e e') : OkConf conf h0 e' h' :=
  fun t ht b o hl => h t ht b o ((hE t).trans hl)

theorem bubbleD (hmd : CallCls callF md) (hmo : CallMono callF) {conf : List Nat} {h0 : Heap} {i : AIns} {post : List AIns} : ∀ {pre : List AIns} {e e' : Env} {h h' : Heap}, (∀ p ∈ pre, commutes md p i = true ∨ softly conf p i = true) →
    runIns callF (pre ++ i :: post) e h = some (e', h') → h0.next ≤ h.next → OkConf conf h0 e' h' → Stays conf (pre ++ i :: post) →
    ∃ e1 h1 e'', i.step callF e h = some (e1, h1) ∧ runIns callF (pre ++ post) e1 h1 = some (e'', h') ∧ Eqv e' e''
  | [], e, e', h, h', _, hs, _, _, _ => by
    simp only [List.nil_append, runIns] at hs
    split at hs
    · rename_i e1 h1 h2
      exact ⟨e1, h1, e', h2, hs, Eqv.refl _⟩
    · simp at hs
  | p :: pre, e, e', h, h', hc, hs, hn, hok, hst => by
    simp only [List.cons_append, runIns] at hs
    split at hs
    · rename_i ea ha hp
      have hn2 : h0.next ≤ ha.next := Nat.le_trans hn (mono_step hmd hmo hp).next
      obtain ⟨eb, hb, e'', h1, h2, h3⟩ := bubbleD hmd hmo (fun q hq => hc q (by simp [hq])) hs hn2 hok hst.2
      have hsi : ∀ t, i.addr = some t → t ∈ conf → dstIn i.dst [t] = false ∧ ∀ q ∈ pre ++ post, dstIn q.dst [t] = false := by
        intro t ht htc
        obtain ⟨a, b⟩ := Stays.at (pre := p :: pre) hst t ht htc
        refine ⟨a, fun q hq => ?_⟩
        rcases List.mem_append.1 hq with hq | hq
        · rcases hc q (by simp [hq]) with hq2 | hq2
          · simp only [commutes, Bool.and_eq_true, Bool.not_eq_true'] at hq2
            exact dst_notin hq2.1.1.1 (addr_uses ht)
          · simp only [softly, Bool.and_eq_true, Bool.not_eq_true'] at hq2
            exact dst_notin hq2.1.1.1 (addr_uses ht)
        · exact b q hq
      have hsp : ∀ t, p.addr = some t → t ∈ conf → dstIn p.dst [t] = false ∧ ∀ q ∈ pre ++ post, dstIn q.dst [t] = false := by
        intro t ht htc
        obtain ⟨a, b⟩ := hst.1 t ht htc
        refine ⟨a, fun q hq => b q ?_⟩
        simp only [List.append_eq, List.mem_append, List.mem_cons] at hq ⊢
        rcases hq with h | h
        · exact .inl h
        · exact .inr (.inr h)
      obtain ⟨e1, hh1, eb', g1, g2, g3⟩ := swapD hmd hmo (hc p (by simp)) hp h1 h2 hn (hok.eqv h3) hsp hsi
      obtain ⟨e3, g4, g5⟩ := runIns_eqv g3 h2
      exact ⟨e1, hh1, e3, g1, by simp only [List.cons_append, runIns, g2]; exact g4, h3.trans g5⟩
    · simp at hs

end

/-- may a region's order be left open, if these loads' blocks are left alone? -/
def drawOkD (md : Nat → Nat) (conf : List Nat) (is : List AIns) (deps : List (List Nat)) : Bool :=
  let ms := masks deps []
  allBelow is.length fun j => (deps.getD j []).all (fun d => Nat.blt d j) &&
    allBelow j fun i => (ms.getD j 0).testBit i || (match is[i]?, is[j]? with
      | some x, some y => commutes md x y || softly conf x y
      | _, _ => false)

/-- the loads whose order against a writer is open -/
def confOf (md : Nat → Nat) (is : List AIns) (deps : List (List Nat)) : List Nat :=
  let ms := masks deps []
  (List.range is.length).flatMap fun j => (List.range j).flatMap fun i => bif (ms.getD j 0).testBit i then [] else (match is[i]?, is[j]? with
    | some x, some y => bif commutes md x y then [] else (match x.addr, y.addr with
      | some t, _ => [t]
      | none, some t => [t]
      | none, none => [])
    | _, _ => [])

end Go.Ev
