/- The evaluator that parts where a test's outcome is open: its answer is a tree of tests; what a branch answers is the evaluator's answer where the tests come out so. -/
import Derived.Test.YtipdancojcdioaaEvR
namespace Go.Ev
set_option linter.unusedVariables false
set_option linter.unusedSimpArgs false
open Go

inductive Br (α : Type) where
  | ret (x : α)
  | br (c : Bool) (t e : Br α)
  | bad

def Br.get {α : Type} : Br α → Option α
  | .ret x => some x
  | .br c t e => bif c then t.get else e.get
  | .bad => none

section
variable {α : Type}

/-- what a register's bool is: told, or decided ahead, or parted -/
def boolK (e : Env) (D : Tr Bool) (t : Nat) (k : Bool → Tr Bool → Br α) (other : Br α) : Br α :=
  match lk e t with
  | some (.bool x) => k x D
  | some (.symb x) => match D.get t with
    | some d => k d D
    | none => .br x (k true (D.set (t + 1) t (some true))) (k false (D.set (t + 1) t (some false)))
  | some _ => other
  | none => .bad

def guardK (g : Option (Nat × Bool)) (e : Env) (D : Tr Bool) (k : Bool → Tr Bool → Br α) : Br α :=
  match g with
  | none => k true D
  | some (t, b) => boolK e D t (fun x D => k (x == b) D) (k false D)

abbrev CallK (α : Type) := Nat → List AV → Heap → (AV → Heap → Br α) → Br α

def noCall : CallF := fun _ _ _ => none

def opK (callK : CallK α) (e : Env) (D : Tr Bool) (h : Heap) (k : AV → Tr Bool → Heap → Br α) : AOp → Br α
  | .call f args => match getAll e args with
    | some vs => callK f vs h (fun v h' => k v D h')
    | none => .bad
  | .callv x args => match x.get e with
    | some (.fn f first captured) => (match getAll e args with
      | some vs => callK f (first ++ vs ++ captured) h (fun v h' => k v D h')
      | none => .bad)
    | _ => .bad
  | .pick (.t t) a b => boolK e D t (fun x D => match (bif x then a.get e else b.get e) with
    | some v => k v D h
    | none => .bad) .bad
  | op => match op.run noCall e h with
    | some (v, h') => k v D h'
    | none => .bad

def dropD (D : Tr Bool) (dst : Option Nat) : Tr Bool := match dst with
  | some d => D.set (d + 1) d none
  | none => D

def insK (callK : CallK α) (i : AIns) (e : Env) (D : Tr Bool) (h : Heap) (k : Env → Tr Bool → Heap → Br α) : Br α :=
  guardK i.guard e D fun w D => bif w then opK callK e D h (fun v D h' => k (putE e i.dst v) (dropD D i.dst) h') i.op else k (putE e i.dst (.tup [])) (dropD D i.dst) h

def runK (callK : CallK α) : List AIns → Env → Tr Bool → Heap → (Env → Tr Bool → Heap → Br α) → Br α
  | [], e, D, h, k => k e D h
  | i :: r, e, D, h, k => insK callK i e D h fun e D h => runK callK r e D h k

abbrev ContK (α : Type) := AEx → Env → Tr Bool → Heap → Br α

def loopK (body : Env → Tr Bool → Heap → ContK α → Br α) : Nat → Env → Tr Bool → Heap → ContK α → Br α
  | 0, _, _, _, _ => .bad
  | n + 1, e, D, h, k => body e D h fun x e D h => match x with
    | .normal => loopK body n e D h k
    | .exit id => k (.exit id) e D h
    | .ret => k .ret e D h

def evK (callK : CallK α) (fuel : Nat) : ACode → Env → Tr Bool → Heap → ContK α → Br α
  | .skip, e, D, h, k => k .normal e D h
  | .ret, e, D, h, k => k .ret e D h
  | .exit id, e, D, h, k => k (.exit id) e D h
  | .region ins, e, D, h, k => runK callK ins e D h fun e D h => k .normal e D h
  | .regionD ins conf, e, D, h, k => runK callK ins e D (h.withLog []) fun e' D' h' => bif okConf e' h.next h'.log conf then k .normal e' D' (h'.withLog (h'.log ++ h.log)) else .bad
  | .seq a b, e, D, h, k => evK callK fuel a e D h fun x e D h => match x with
    | .normal => evK callK fuel b e D h k
    | .exit id => k (.exit id) e D h
    | .ret => k .ret e D h
  | .cond (.t t) a b, e, D, h, k => boolK e D t (fun x D => bif x then evK callK fuel a e D h k else evK callK fuel b e D h k) .bad
  | .cond (.c v) a b, e, D, h, k => match v with
    | .bool x => bif x then evK callK fuel a e D h k else evK callK fuel b e D h k
    | _ => .bad
  | .block id b, e, D, h, k => evK callK fuel b e D h fun x e D h => match x with
    | .normal => k .normal e D h
    | .exit id' => bif id'.beq id then k .normal e D h else k (.exit id') e D h
    | .ret => k .ret e D h
  | .loop b, e, D, h, k => loopK (fun e D h k => evK callK fuel b e D h k) fuel e D h k

def bodyK (callK : CallK α) (fuel : Nat) (F : AFunc) (args : List AV) (h : Heap) (k : AV → Heap → Br α) : Br α :=
  evK callK fuel F.body (params 0 args) .nil h fun x e _ h' => match x with
    | .exit _ => .bad
    | .normal => (match resOf e h' F.results with
      | some vs => k (single vs) h'
      | none => .bad)
    | .ret => (match resOf e h' F.results with
      | some vs => k (single vs) h'
      | none => .bad)

def evTK (T : Nat → Option AFunc) (callK : CallK α) (n f : Nat) (args : List AV) (h : Heap) (k : AV → Heap → Br α) : Br α :=
  match T f with
  | none => .bad
  | some F => match F.mode with
    | 0 => bodyK callK n F args h k
    | 1 => bodyK callK n F args h.frz fun v _ => bif v.free then k v h else .bad
    | 2 => bif args.all AV.free then bodyK callK n F args Heap.empty fun v _ => bif v.free then k v h else .bad else .bad
    | 3 => bodyK callK n F args h.frz fun v h' => match newSl h F.size h' v with
      | some (v, h2) => k v h2
      | none => .bad
    | _ => .bad

def evFK (T : Tab) : Nat → CallK α
  | 0, _, _, _, _ => .bad
  | n + 1, f, args, h, k => match T.sp f args with
    | some v => k v h
    | none => evTK T.fn (evFK T n) n f args h k

/-! ### what the tree says -/
def Dok (e : Env) (D : Tr Bool) : Prop := ∀ t d, D.get t = some d → lk e t = some (.symb d)

theorem Dok.nil (e : Env) : Dok e .nil := fun t d h => by simp [Tr.get] at h

theorem Dok.drop {e : Env} {D : Tr Bool} (h : Dok e D) (dst : Option Nat) (v : AV) : Dok (putE e dst v) (dropD D dst) := by
  intro t d hd
  cases dst with
  | none => exact h t d hd
  | some x =>
    simp only [dropD] at hd
    rw [Tr.get_set _ _ _ _ _ (by omega)] at hd
    split at hd
    · simp at hd
    · rename_i hne
      rw [lk_put]
      rw [if_neg (by simp; omega)]
      exact h t d hd

theorem Dok.decide {e : Env} {D : Tr Bool} (h : Dok e D) {t : Nat} {d : Bool} (hl : lk e t = some (.symb d)) : Dok e (D.set (t + 1) t (some d)) := by
  intro s x hx
  rw [Tr.get_set _ _ _ _ _ (by omega)] at hx
  split at hx
  · rename_i hs; subst hs; obtain rfl := Option.some.inj hx; exact hl
  · exact h s x hx

theorem boolK_get {e : Env} {D : Tr Bool} {t : Nat} {k : Bool → Tr Bool → Br α} {other : Br α} {r : α} (hD : Dok e D) (h : (boolK e D t k other).get = some r) :
    (∃ x D', Dok e D' ∧ (k x D').get = some r ∧ (lk e t = some (.bool x) ∨ lk e t = some (.symb x))) ∨
    (other.get = some r ∧ ∃ v, lk e t = some v ∧ (∀ x, v ≠ .bool x) ∧ ∀ x, v ≠ .symb x) := by
  unfold boolK at h
  split at h
  · rename_i x hx; exact .inl ⟨x, D, hD, h, .inl hx⟩
  · rename_i x hx
    split at h
    · rename_i d hd
      have := hD t d hd
      exact .inl ⟨d, D, hD, h, .inr this⟩
    · simp only [Br.get] at h
      cases x with
      | true => exact .inl ⟨true, _, hD.decide hx, h, .inr hx⟩
      | false => exact .inl ⟨false, _, hD.decide hx, h, .inr hx⟩
  · rename_i v h1 h2 hv
    exact .inr ⟨h, v, hv, fun x e => h1 x e, fun x e => h2 x e⟩
  · simp [Br.get] at h

theorem guardK_get {i : AIns} {e : Env} {D : Tr Bool} {k : Bool → Tr Bool → Br α} {r : α} (hD : Dok e D) (h : (guardK i.guard e D k).get = some r) :
    ∃ w D', i.wanted e = some w ∧ Dok e D' ∧ (k w D').get = some r := by
  obtain ⟨ds, g, op⟩ := i
  simp only [AIns.wanted, guardK] at h ⊢
  cases g with
  | none => exact ⟨true, D, rfl, hD, h⟩
  | some g =>
    obtain ⟨t, b⟩ := g
    simp only at h ⊢
    rcases boolK_get hD h with ⟨x, D', h1, h2, h3 | h3⟩ | ⟨h1, v, h2, h3, h4⟩
    · exact ⟨_, D', by rw [h3], h1, h2⟩
    · exact ⟨_, D', by rw [h3], h1, h2⟩
    · refine ⟨false, D, ?_, hD, h1⟩
      rw [h2]
      cases v <;> first | rfl | (exact absurd rfl (h3 _)) | (exact absurd rfl (h4 _))

def CK (callK : CallK α) (callF : CallF) : Prop := ∀ f vs h k r, (callK f vs h k).get = some r → ∃ v h', callF f vs h = some (v, h') ∧ (k v h').get = some r

theorem run_noCall {callF : CallF} {op : AOp} {e : Env} {h h' : Heap} {v : AV} (hr : op.run noCall e h = some (v, h')) : op.run callF e h = some (v, h') := by
  cases op
  case call f args =>
    simp only [AOp.run, noCall] at hr
    split at hr <;> simp at hr
  case callv x args =>
    obtain ⟨u, hu, h2⟩ := on1_some hr
    cases u <;> (try simp at h2; done)
    simp only [noCall] at h2
    split at h2 <;> simp at h2
  all_goals exact hr

theorem opK_get {callK : CallK α} {callF : CallF} (hc : CK callK callF) {op : AOp} {e : Env} {D : Tr Bool} {h : Heap} {k : AV → Tr Bool → Heap → Br α} {r : α} (hD : Dok e D)
    (hr : (opK callK e D h k op).get = some r) : ∃ v h' D', op.run callF e h = some (v, h') ∧ Dok e D' ∧ (k v D' h').get = some r := by
  unfold opK at hr
  split at hr
  · split at hr
    · rename_i vs hvs
      obtain ⟨v, h', h1, h2⟩ := hc _ _ _ _ _ hr
      exact ⟨v, h', D, by simp only [AOp.run, hvs]; exact h1, hD, h2⟩
    · simp [Br.get] at hr
  · split at hr
    · rename_i f fi ca hx
      split at hr
      · rename_i vs hvs
        obtain ⟨v, h', h1, h2⟩ := hc _ _ _ _ _ hr
        exact ⟨v, h', D, by simp only [AOp.run, hx, on1, hvs]; exact h1, hD, h2⟩
      · simp [Br.get] at hr
    · simp [Br.get] at hr
  · rename_i t a b
    rcases boolK_get hD hr with ⟨x, D', h1, h2, h3⟩ | ⟨h1, _⟩
    · split at h2
      · rename_i v hv
        refine ⟨v, h, D', ?_, h1, h2⟩
        simp only [AOp.run]
        show on1 (lk e t) _ = _
        rcases h3 with h3 | h3 <;> (rw [h3]; simp only [on1, hv, pureR])
      · simp [Br.get] at h2
    · simp [Br.get] at h1
  · split at hr
    · rename_i v h' hv
      exact ⟨v, h', D, run_noCall hv, hD, hr⟩
    · simp [Br.get] at hr

theorem insK_get {callK : CallK α} {callF : CallF} (hc : CK callK callF) {i : AIns} {e : Env} {D : Tr Bool} {h : Heap} {k : Env → Tr Bool → Heap → Br α} {r : α} (hD : Dok e D)
    (hr : (insK callK i e D h k).get = some r) : ∃ e' h' D', i.step callF e h = some (e', h') ∧ Dok e' D' ∧ (k e' D' h').get = some r := by
  unfold insK at hr
  obtain ⟨w, D1, hw, hD1, h1⟩ := guardK_get hD hr
  unfold AIns.step
  rw [hw]
  cases w with
  | true =>
    simp only [cond_true] at h1
    obtain ⟨v, h', D2, h2, h3, h4⟩ := opK_get hc hD1 h1
    refine ⟨putE e i.dst v, h', dropD D2 i.dst, by simp only [h2], h3.drop _ _, h4⟩
  | false =>
    simp only [cond_false] at h1
    exact ⟨_, h, dropD D1 i.dst, rfl, hD1.drop _ _, h1⟩

theorem runK_get {callK : CallK α} {callF : CallF} (hc : CK callK callF) : ∀ {l : List AIns} {e : Env} {D : Tr Bool} {h : Heap} {k : Env → Tr Bool → Heap → Br α} {r : α}, Dok e D →
    (runK callK l e D h k).get = some r → ∃ e' h' D', runIns callF l e h = some (e', h') ∧ Dok e' D' ∧ (k e' D' h').get = some r
  | [], e, D, h, k, r, hD, hr => ⟨e, h, D, rfl, hD, hr⟩
  | i :: l, e, D, h, k, r, hD, hr => by
    simp only [runK] at hr
    obtain ⟨e1, h1, D1, g1, g2, g3⟩ := insK_get hc hD hr
    obtain ⟨e2, h2, D2, g4, g5, g6⟩ := runK_get hc g2 g3
    exact ⟨e2, h2, D2, by simp only [runIns, g1]; exact g4, g5, g6⟩

theorem evK_get {callK : CallK α} {callF : CallF} (hc : CK callK callF) {fuel : Nat} : ∀ {c : ACode} {e : Env} {D : Tr Bool} {h : Heap} {k : ContK α} {r : α}, Dok e D →
    (evK callK fuel c e D h k).get = some r → ∃ x e' h' D', evC callF fuel c e h = some (x, e', h') ∧ Dok e' D' ∧ (k x e' D' h').get = some r
  | .skip, e, D, h, k, r, hD, hr => ⟨_, e, h, D, rfl, hD, hr⟩
  | .ret, e, D, h, k, r, hD, hr => ⟨_, e, h, D, rfl, hD, hr⟩
  | .exit _, e, D, h, k, r, hD, hr => ⟨_, e, h, D, rfl, hD, hr⟩
  | .region ins, e, D, h, k, r, hD, hr => by
    simp only [evK] at hr
    obtain ⟨e1, h1, D1, g1, g2, g3⟩ := runK_get hc hD hr
    exact ⟨_, e1, h1, D1, by simp only [evC, g1], g2, g3⟩
  | .regionD ins conf, e, D, h, k, r, hD, hr => by
    simp only [evK] at hr
    obtain ⟨e1, h1, D1, g1, g2, g3⟩ := runK_get hc hD hr
    cases hb : okConf e1 h.next h1.log conf with
    | false => simp [hb, Br.get] at g3
    | true =>
      simp only [hb, cond_true] at g3
      exact ⟨_, e1, _, D1, by simp only [evC, g1, hb, cond_true], g2, g3⟩
  | .seq a b, e, D, h, k, r, hD, hr => by
    simp only [evK] at hr
    obtain ⟨x, e1, h1, D1, g1, g2, g3⟩ := evK_get hc hD hr
    cases x with
    | normal =>
      simp only at g3
      obtain ⟨x, e2, h2, D2, g4, g5, g6⟩ := evK_get hc g2 g3
      exact ⟨x, e2, h2, D2, by simp only [evC, g1]; exact g4, g5, g6⟩
    | exit id => exact ⟨_, e1, h1, D1, by simp only [evC, g1], g2, g3⟩
    | ret => exact ⟨_, e1, h1, D1, by simp only [evC, g1], g2, g3⟩
  | .cond (.t t) a b, e, D, h, k, r, hD, hr => by
    simp only [evK] at hr
    rcases boolK_get hD hr with ⟨x, D', h1, h2, h3⟩ | ⟨h1, _⟩
    · cases x with
      | true =>
        simp only [cond_true] at h2
        obtain ⟨x, e2, h2, D2, g4, g5, g6⟩ := evK_get hc h1 h2
        refine ⟨x, e2, h2, D2, ?_, g5, g6⟩
        rcases h3 with h3 | h3 <;> simp only [evC, Opd.get, h3, cond_true] <;> exact g4
      | false =>
        simp only [cond_false] at h2
        obtain ⟨x, e2, h2, D2, g4, g5, g6⟩ := evK_get hc h1 h2
        refine ⟨x, e2, h2, D2, ?_, g5, g6⟩
        rcases h3 with h3 | h3 <;> simp only [evC, Opd.get, h3, cond_false] <;> exact g4
    · simp [Br.get] at h1
  | .cond (.c v) a b, e, D, h, k, r, hD, hr => by
    simp only [evK] at hr
    split at hr
    · rename_i x
      cases x with
      | true =>
        simp only [cond_true] at hr
        obtain ⟨x, e2, h2, D2, g4, g5, g6⟩ := evK_get hc hD hr
        exact ⟨x, e2, h2, D2, by simp only [evC, Opd.get, cond_true]; exact g4, g5, g6⟩
      | false =>
        simp only [cond_false] at hr
        obtain ⟨x, e2, h2, D2, g4, g5, g6⟩ := evK_get hc hD hr
        exact ⟨x, e2, h2, D2, by simp only [evC, Opd.get, cond_false]; exact g4, g5, g6⟩
    · simp [Br.get] at hr
  | .block id b, e, D, h, k, r, hD, hr => by
    simp only [evK] at hr
    obtain ⟨x, e1, h1, D1, g1, g2, g3⟩ := evK_get hc hD hr
    cases x with
    | normal => exact ⟨_, e1, h1, D1, by simp only [evC, g1], g2, g3⟩
    | exit id' =>
      simp only at g3
      cases hb : id'.beq id with
      | true => simp only [hb, cond_true] at g3; exact ⟨_, e1, h1, D1, by simp only [evC, g1, hb, cond_true], g2, g3⟩
      | false => simp only [hb, cond_false] at g3; exact ⟨_, e1, h1, D1, by simp only [evC, g1, hb, cond_false], g2, g3⟩
    | ret => exact ⟨_, e1, h1, D1, by simp only [evC, g1], g2, g3⟩
  | .loop b, e, D, h, k, r, hD, hr => by
    simp only [evK] at hr
    have key : ∀ (n : Nat) {e D h}, Dok e D → (loopK (fun e D h k => evK callK fuel b e D h k) n e D h k).get = some r →
        ∃ x e' h' D', loopN (fun e h => evC callF fuel b e h) n e h = some (x, e', h') ∧ Dok e' D' ∧ (k x e' D' h').get = some r := by
      intro n
      induction n with
      | zero => intro e D h _ hl; simp [loopK, Br.get] at hl
      | succ n ih =>
        intro e D h hD hl
        simp only [loopK] at hl
        obtain ⟨x, e1, h1, D1, g1, g2, g3⟩ := evK_get hc hD hl
        cases x with
        | normal =>
          simp only at g3
          obtain ⟨x, e2, h2, D2, g4, g5, g6⟩ := ih g2 g3
          exact ⟨x, e2, h2, D2, by simp only [loopN, g1]; exact g4, g5, g6⟩
        | exit id => exact ⟨_, e1, h1, D1, by simp only [loopN, g1], g2, g3⟩
        | ret => exact ⟨_, e1, h1, D1, by simp only [loopN, g1], g2, g3⟩
    obtain ⟨x, e', h', D', g1, g2, g3⟩ := key fuel hD hr
    exact ⟨x, e', h', D', by simp only [evC]; exact g1, g2, g3⟩

theorem bodyK_get {callK : CallK α} {callF : CallF} (hc : CK callK callF) {fuel : Nat} {F : AFunc} {args : List AV} {h : Heap} {k : AV → Heap → Br α} {r : α} (hr : (bodyK callK fuel F args h k).get = some r) :
    ∃ v h', evBody callF fuel F args h = some (v, h') ∧ (k v h').get = some r := by
  unfold bodyK at hr
  obtain ⟨x, e', h', D', g1, g2, g3⟩ := evK_get hc (Dok.nil _) hr
  cases x with
  | exit id => simp [Br.get] at g3
  | normal =>
    simp only at g3
    split at g3
    · rename_i vs hvs; exact ⟨_, h', by simp only [evBody, g1, hvs], g3⟩
    · simp [Br.get] at g3
  | ret =>
    simp only at g3
    split at g3
    · rename_i vs hvs; exact ⟨_, h', by simp only [evBody, g1, hvs], g3⟩
    · simp [Br.get] at g3

theorem evTK_get {T : Nat → Option AFunc} {callK : CallK α} {callF : CallF} (hc : CK callK callF) {n f : Nat} {args : List AV} {h : Heap} {k : AV → Heap → Br α} {r : α}
    (hr : (evTK T callK n f args h k).get = some r) : ∃ v h', evT T callF n f args h = some (v, h') ∧ (k v h').get = some r := by
  unfold evTK at hr
  unfold evT
  split at hr
  · simp [Br.get] at hr
  · rename_i F hF
    split at hr
    · rename_i hm; simp only [hF, hm]; exact bodyK_get hc hr
    · rename_i hm
      simp only [hF, hm]
      obtain ⟨v, h', g1, g2⟩ := bodyK_get hc hr
      cases hb : v.free with
      | false => simp [hb, Br.get] at g2
      | true => simp only [hb, cond_true] at g2; exact ⟨v, h, by simp only [g1, hb, cond_true], g2⟩
    · rename_i hm
      simp only [hF, hm]
      cases ha : args.all AV.free with
      | false => simp [ha, Br.get] at hr
      | true =>
        simp only [ha, cond_true] at hr ⊢
        obtain ⟨v, h', g1, g2⟩ := bodyK_get hc hr
        cases hb : v.free with
        | false => simp [hb, Br.get] at g2
        | true => simp only [hb, cond_true] at g2; exact ⟨v, h, by simp only [g1, hb, cond_true], g2⟩
    · rename_i hm
      simp only [hF, hm]
      obtain ⟨v, h', g1, g2⟩ := bodyK_get hc hr
      split at g2
      · rename_i v2 h2 hn; exact ⟨v2, h2, by simp only [g1, hn], g2⟩
      · simp [Br.get] at g2
    · simp [Br.get] at hr

theorem evFK_get {T : Tab} : ∀ n, CK (α := α) (evFK T n) (evF T n)
  | 0 => fun f vs h k r hr => by simp [evFK, Br.get] at hr
  | n + 1 => fun f vs h k r hr => by
    simp only [evFK] at hr
    simp only [evF]
    split at hr
    · rename_i v hv; exact ⟨v, h, by simp only [hv], hr⟩
    · rename_i hv
      simp only [hv]
      exact evTK_get (evFK_get n) hr

/-- the tree of a call -/
def tree (T : Tab) (n f : Nat) (args : List AV) (h : Heap) : Br (AV × Heap) := evFK T n f args h fun v h' => .ret (v, h')

theorem tree_get {T : Tab} {n f : Nat} {args : List AV} {h h' : Heap} {v : AV} (hr : (tree T n f args h).get = some (v, h')) : evF T n f args h = some (v, h') := by
  obtain ⟨v1, h1, g1, g2⟩ := evFK_get n _ _ _ _ _ hr
  simp only [Br.get, Option.some.injEq, Prod.mk.injEq] at g2
  obtain ⟨rfl, rfl⟩ := g2
  exact g1

/-- a tree for what comes back alone -/
def treeV (T : Tab) (n f : Nat) (args : List AV) (h : Heap) : Br AV := evFK T n f args h fun v _ => .ret v

theorem treeV_get {T : Tab} {n f : Nat} {args : List AV} {h : Heap} {v : AV} (hr : (treeV T n f args h).get = some v) : ∃ h', evF T n f args h = some (v, h') := by
  obtain ⟨v1, h1, g1, g2⟩ := evFK_get n _ _ _ _ _ hr
  simp only [Br.get, Option.some.injEq] at g2
  subst g2
  exact ⟨_, g1⟩

end
end Go.Ev
