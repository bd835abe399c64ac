/- Regions in any order: what evDraw has done. -/
import Derived.Test.YtggofahhehkbbaaGreatDoorEvNrm
namespace Go.Proofs.YtggofahhehkbbaaGreatDoor.Ev
set_option autoImplicit false
set_option linter.unusedVariables false
set_option linter.unusedSimpArgs false

structure Upd where
  d : Option Nat
  x : AVal
  bw : BW
  eff : Eff
  pan : Option AV

def Upd.app (u : Upd) (st : St) : St := (st.setBs u.bw).setD u.d u.x
def noUpd : Upd := ⟨none, .undef, [], noEff, none⟩

def runF (E : Env) (h : Handler) (base : Nat) (o : Oper) (gr : List Nat) (st : St) : Option Upd :=
  match o.op with
  | .pick (.tmp t) a b => match st.tm t with
    | .v false [.p (.lit (.bool c))] => match (opd E (if c then a else b)).run st (t :: gr) [] with
      | some (x, tr, br) => some ⟨o.dst, x, [], ⟨tr, br, optL o.dst, []⟩, none⟩
      | none => none
    | _ => none
  | _ => match (opM E h base o).run st gr [] with
    | some (.val x bw, tr, br) => some ⟨o.dst, x, bw, ⟨tr, br, optL o.dst, bwIds bw⟩, none⟩
    | some (.skip bw, tr, br) => some ⟨o.dst, .tup [], bw, ⟨tr, br, optL o.dst, bwIds bw⟩, none⟩
    | some (.pan a bw, tr, br) => some ⟨none, .undef, bw, ⟨tr, br, [], bwIds bw⟩, some a⟩
    | none => none

def opF (E : Env) (h : Handler) (base : Nat) (ops : List Oper) (o : Oper) (st : St) : Option Upd :=
  match o.guard with
  | none => runF E h base o (grOf ops o) st
  | some (j, want) => match dstOf ops j with
    | some d => match st.tm d with
      | .v false [.p (.lit (.bool b))] => if b = want then runF E h base o (grOf ops o) st else some ⟨o.dst, .tup [], [], ⟨grOf ops o, [], optL o.dst, []⟩, none⟩
      | .tup [] => some ⟨o.dst, .tup [], [], ⟨grOf ops o, [], optL o.dst, []⟩, none⟩
      | _ => none
    | none => none

def appAll : List Upd → St → St
  | [], st => st
  | u :: r, st => appAll r (u.app st)

theorem setT_same {st : St} {d : Nat} {x : AVal} (h : st.tm d = x) : st.setT d x = st := by
  have : upd st.tm d x = st.tm := by
    funext t
    by_cases he : t = d
    · subst he; rw [upd_same]; exact h.symm
    · rw [upd_ne _ _ he]
  show { st with tm := upd st.tm d x } = st
  rw [this]

theorem run_of_runKL {α : Type} {st : St} : ∀ (m : RM α) {K : α → List Nat → List Nat → Res} {o : Out × Boxes} {tr br : List Nat}, m.runKL st tr br K = some o → ∃ a tr' br', m.run st tr br = some (a, tr', br') ∧ K a tr' br' = some o
  | .ret a, K, o, tr, br, h => ⟨a, tr, br, rfl, h⟩
  | .fail, K, o, tr, br, h => by simp [RM.runKL] at h
  | .tmp n k, K, o, tr, br, h => run_of_runKL (k (st.tm n)) (tr := n :: tr) h
  | .blk n k, K, o, tr, br, h => run_of_runKL (k (st.bk n)) (br := n :: br) h
  | .test b k, K, o, tr, br, h => by
    simp only [RM.runKL] at h
    rcases testB_some h with ⟨rfl, h⟩ | ⟨rfl, h⟩
    · exact run_of_runKL (k true) h
    · exact run_of_runKL (k false) h

theorem execKL_F {E : Env} {h : Handler} {base : Nat} {o : Oper} {gr : List Nat} {st : St} {K : Eff → St → Option AV → Res} {res : Out × Boxes} (he : execKL E h base o gr st K = some res) :
    ∃ u, runF E h base o gr st = some u ∧ K u.eff (u.app st) u.pan = some res := by
  unfold execKL at he
  unfold runF
  split at he
  · rename_i t a b hop
    split at he
    · rename_i c hc
      rcases testB_some he with ⟨rfl, he⟩ | ⟨rfl, he⟩
      · rw [setT_same (x := boolV true) hc] at he
        obtain ⟨x, tr, br, h1, h2⟩ := run_of_runKL _ he
        simp only [hop, hc, if_true, h1]
        exact ⟨_, rfl, h2⟩
      · rw [setT_same (x := boolV false) hc] at he
        obtain ⟨x, tr, br, h1, h2⟩ := run_of_runKL _ he
        simp only [hop, hc, Bool.false_eq_true, if_false, h1]
        exact ⟨_, rfl, h2⟩
    · simp at he
  case h_2 x hne =>
    obtain ⟨out, tr, br, h1, h2⟩ := run_of_runKL _ he
    split
    case h_1 t a b hop => exact absurd hop (hne t a b)
    case h_2 =>
      rw [h1]
      cases out <;> exact ⟨_, rfl, h2⟩

theorem guardK_F {E : Env} {h : Handler} {base : Nat} {ops : List Oper} {o : Oper} {st : St} {K : Eff → St → Option AV → Res} {skip : St → Res} {res : Out × Boxes}
    (he : guardK ops o st (fun st => execKL E h base o (grOf ops o) st K) skip = some res) :
    (∃ u, opF E h base ops o st = some u ∧ K u.eff (u.app st) u.pan = some res) ∨ (opF E h base ops o st = some ⟨o.dst, .tup [], [], ⟨grOf ops o, [], optL o.dst, []⟩, none⟩ ∧ skip st = some res) := by
  unfold guardK at he
  unfold opF
  cases hg : o.guard with
  | none =>
    rw [hg] at he
    exact .inl (execKL_F he)
  | some jw =>
    obtain ⟨j, want⟩ := jw
    rw [hg] at he
    simp only at he ⊢
    cases hd : dstOf ops j with
    | none => rw [hd] at he; simp at he
    | some d =>
      rw [hd] at he
      simp only at he ⊢
      split at he
      · rename_i b hb
        rw [hb]
        rcases testB_some he with ⟨rfl, he⟩ | ⟨rfl, he⟩ <;> cases want <;> simp only at he
        · rw [setT_same (x := boolV true) hb] at he
          exact .inr ⟨by simp, he⟩
        · rw [setT_same (x := boolV true) hb] at he
          simp only [if_true]
          exact .inl (execKL_F he)
        · rw [setT_same (x := boolV false) hb] at he
          simp only [if_true]
          exact .inl (execKL_F he)
        · rw [setT_same (x := boolV false) hb] at he
          exact .inr ⟨by simp, he⟩
      · rename_i hb
        rw [hb]
        exact .inr ⟨rfl, he⟩
      · simp at he

/-- What the walk through a region in its order has found. -/
structure Trace (E : Env) (h : Handler) (base : Nat) (ops : List Oper) (r : List Oper) (ms : List Nat) (i : Nat) (st : St) (pn pn' : Option (Nat × AV)) (us : List Upd) : Prop where
  len : us.length = r.length
  keep : ∀ x, pn = some x → pn' = pn
  pan : ∀ (j : Nat) u, us[j]? = some u → ∀ a, u.pan = some a → pn' = some (i + j, a)
  pan2 : ∀ p a, pn = none → pn' = some (p, a) → ∃ j u, p = i + j ∧ us[j]? = some u ∧ u.pan = some a
  step : ∀ (j : Nat) u, us[j]? = some u → ∃ o m, r[j]? = some o ∧ ms[j]? = some m ∧
    (opF E h (base + 64 * (i + j)) ops o (appAll (us.take j) st) = some u ∨ (u = noUpd ∧ ∃ p a, pn' = some (p, a) ∧ Nat.testBit m p = true))

theorem evDraw_trace {E : Env} {h : Handler} {base : Nat} {ops : List Oper} {K : St → List Eff → Option (Nat × AV) → Res} {res : Out × Boxes} : ∀ (r : List Oper) (ms : List Nat) (i : Nat) (st : St) (es : List Eff) (pn : Option (Nat × AV)),
    evDraw E h base ops r ms i st es pn K = some res → ∃ us pn', Trace E h base ops r ms i st pn pn' us ∧ K (appAll us st) (es ++ us.map (·.eff)) pn' = some res
  | [], ms, i, st, es, pn, he => by
    have he : K st es pn = some res := by cases ms <;> exact he
    exact ⟨[], pn, ⟨rfl, fun _ _ => rfl, fun j u hj => by simp at hj, fun p a h1 h2 => by rw [h1] at h2; simp at h2, fun j u hj => by simp at hj⟩, by simpa [appAll] using he⟩
  | _ :: _, [], i, st, es, pn, he => by simp [evDraw] at he
  | o :: r, m :: ms, i, st, es, pn, he => by
    simp only [evDraw] at he
    have cons : ∀ (u : Upd) (pn1 : Option (Nat × AV)), evDraw E h base ops r ms (i + 1) (u.app st) (es ++ [u.eff]) pn1 K = some res →
        (∀ x, pn = some x → pn1 = pn ∧ u.pan = none) → (∀ a, u.pan = some a → pn1 = some (i, a)) → (∀ p a, pn = none → pn1 = some (p, a) → p = i ∧ u.pan = some a) →
        (opF E h (base + 64 * i) ops o st = some u ∨ (u = noUpd ∧ ∃ p a, pn1 = some (p, a) ∧ Nat.testBit m p = true)) →
        ∃ us pn', Trace E h base ops (o :: r) (m :: ms) i st pn pn' us ∧ K (appAll us st) (es ++ us.map (·.eff)) pn' = some res := by
      intro u pn1 h1 h2 h3 h4 h5
      obtain ⟨us, pn', t, hk⟩ := evDraw_trace r ms (i + 1) (u.app st) (es ++ [u.eff]) pn1 h1
      have hpn : ∀ x, pn1 = some x → pn' = pn1 := t.keep
      refine ⟨u :: us, pn', ⟨by simp [t.len], fun x hx => ?_, fun j v hj a ha => ?_, fun p a hp hp' => ?_, fun j v hj => ?_⟩, by simpa [appAll] using hk⟩
      · obtain ⟨e1, _⟩ := h2 x hx
        have : pn1 = some x := by rw [e1]; exact hx
        rw [hpn x this, e1]
      · cases j with
        | zero =>
          simp only [List.getElem?_cons_zero, Option.some.injEq] at hj
          subst hj
          have := h3 a ha
          rw [hpn _ this, this]
          rfl
        | succ j =>
          have := t.pan j v (by simpa using hj) a ha
          rw [this]
          congr 2
          omega
      · cases hq : pn1 with
        | none =>
          obtain ⟨j, v, e1, e2, e3⟩ := t.pan2 p a hq hp'
          exact ⟨j + 1, v, by omega, by simpa using e2, e3⟩
        | some y =>
          have := hpn y hq
          rw [this, hq] at hp'
          simp only [Option.some.injEq] at hp'
          subst hp'
          obtain ⟨e1, e2⟩ := h4 p a hp hq
          exact ⟨0, u, by omega, rfl, e2⟩
      · cases j with
        | zero =>
          simp only [List.getElem?_cons_zero, Option.some.injEq] at hj
          subst hj
          refine ⟨o, m, rfl, rfl, ?_⟩
          rcases h5 with h5 | ⟨h5, p, a, h6, h7⟩
          · exact .inl h5
          · exact .inr ⟨h5, p, a, by rw [hpn _ h6]; exact h6, h7⟩
        | succ j =>
          obtain ⟨o', m', e1, e2, e3⟩ := t.step j v (by simpa using hj)
          refine ⟨o', m', by simpa using e1, by simpa using e2, ?_⟩
          rcases e3 with e3 | e3
          · refine .inl ?_
            rw [show i + (j + 1) = i + 1 + j by omega]
            exact e3
          · exact .inr e3
    have hgo : ∀ (hb : (match pn with | some (j, _) => Nat.testBit m j | none => false) = false),
        guardK ops o st (fun st => execKL E h (base + 64 * i) o (grOf ops o) st fun e st' a => match a with
          | none => evDraw E h base ops r ms (i + 1) st' (es ++ [e]) pn K
          | some a => match pn with
            | none => evDraw E h base ops r ms (i + 1) st' (es ++ [e]) (some (i, a)) K
            | some _ => none)
        (fun st => evDraw E h base ops r ms (i + 1) (st.setD o.dst (.tup [])) (es ++ [⟨grOf ops o, [], optL o.dst, []⟩]) pn K) = some res →
        ∃ us pn', Trace E h base ops (o :: r) (m :: ms) i st pn pn' us ∧ K (appAll us st) (es ++ us.map (·.eff)) pn' = some res := by
      intro hb hg
      rcases guardK_F hg with ⟨u, h1, h2⟩ | ⟨h1, h2⟩
      · cases hp : u.pan with
        | none =>
          rw [hp] at h2
          exact cons u pn h2 (fun x _ => ⟨rfl, hp⟩) (fun a ha => by rw [hp] at ha; simp at ha) (fun p a e1 e2 => by rw [e1] at e2; simp at e2) (.inl h1)
        | some a =>
          rw [hp] at h2
          cases hq : pn with
          | some y => rw [hq] at h2; simp at h2
          | none =>
            rw [hq] at h2
            subst hq
            refine cons u (some (i, a)) h2 (fun x hx => by simp at hx) (fun a' ha => ?_) (fun p a' _ e2 => ?_) (.inl h1)
            · rw [hp] at ha; simp only [Option.some.injEq] at ha; rw [ha]
            · simp only [Option.some.injEq, Prod.mk.injEq] at e2; rw [hp]; exact ⟨e2.1.symm, by rw [e2.2]⟩
      · exact cons ⟨o.dst, .tup [], [], ⟨grOf ops o, [], optL o.dst, []⟩, none⟩ pn h2 (fun x _ => ⟨rfl, rfl⟩) (fun a ha => by simp at ha) (fun p a e1 e2 => by rw [e1] at e2; simp at e2) (.inl h1)
    cases hpn : pn with
    | none =>
      subst hpn
      exact hgo rfl he
    | some y =>
      obtain ⟨p, a⟩ := y
      subst hpn
      cases hb : Nat.testBit m p with
      | true =>
        simp only [hb] at he
        exact cons noUpd (some (p, a)) he (fun x _ => ⟨rfl, rfl⟩) (fun a ha => by simp [noUpd] at ha) (fun p' a' e1 e2 => by simp at e1) (.inr ⟨rfl, p, a, rfl, hb⟩)
      | false =>
        simp only [hb] at he
        exact hgo hb he

end Go.Proofs.YtggofahhehkbbaaGreatDoor.Ev
