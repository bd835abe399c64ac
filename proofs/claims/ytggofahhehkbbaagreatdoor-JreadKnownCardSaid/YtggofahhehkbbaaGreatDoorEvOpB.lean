/- Operations that compute, all of them: sound. -/
import Derived.Test.YtggofahhehkbbaaGreatDoorEvOpA
import Derived.Laws.StructEq
namespace Go.Proofs.YtggofahhehkbbaaGreatDoor.Ev
set_option autoImplicit false
set_option linter.unusedVariables false
set_option linter.unusedSimpArgs false

theorem avrepL_toArray {c : RepCtx} {cs : List AV} {C : Array Value} (h : AVRepL c cs C.toList) : C.size = cs.length := by simpa using h.length

theorem arr_get {c : RepCtx} {cs : List AV} {C : Array Value} (h : AVRepL c cs C.toList) {i : Nat} {a : AV} (hi : cs[i]? = some a) : ∃ v, C[i]? = some v ∧ AVRep c a v := by
  obtain ⟨v, h1, h2⟩ := h.get i a hi
  exact ⟨v, by simpa using h1, h2⟩

theorem run_part_one {P : Program} {w : World} {t : TypeId} (hg : tyAgg P t = some false) {C : Array Value} {off : Nat} {v : Value} (h : C[off]? = some v) : (part t C off).run P w = .ok v w := by
  unfold part
  simp [run_isAgg hg, h]

theorem run_part_agg {P : Program} {w : World} {t : TypeId} (hg : tyAgg P t = some true) {n : Nat} (hn : tySize P t = some n) (C : Array Value) (off : Nat) : (part t C off).run P w = .ok (.agg (C.extract off (off + n))) w := by
  unfold part
  simp [run_isAgg hg, run_sizeOf hn]

theorem eqFields_sound {P : Program} {B : Base} {w : World} {st : St} {ι : Nat → Nat} {xs ys : List AV} {X Y : Array Value} (hx : AVRepL (ctx B st.bk w ι) xs X.toList) (hy : AVRepL (ctx B st.bk w ι) ys Y.toList) (n : Nat) :
    ∀ {fs : List Field} {b : Bool}, (eqFields P fs xs ys).ev st = some b → (Op.eqFields (n + 1) X Y fs).run P w = .ok b w
  | [], b, h => by
    simp only [eqFields, ev_ret, Option.some.injEq] at h
    subst h
    simp [Op.eqFields]
  | f :: r, b, h => by
    simp only [eqFields, ev_bind, ev_chk] at h
    obtain ⟨_, h0, h⟩ := bind_some h
    have hname : f.name ≠ "_" := by
      intro he
      simp [he] at h0
    simp only [Op.eqFields, hname, ne_eq, not_false_eq_true, if_true, Sem.run_bind]
    split at h
    · rename_i d x y hd hx' hy'
      obtain ⟨u, hu, hxu⟩ := arr_get hx hx'
      obtain ⟨v, hv, hyv⟩ := arr_get hy hy'
      have key : ∀ (he : ((eqCell false d x y).bind fun b => (eqFields P r xs ys).bind fun c => RM.ret (b && c)).ev st = some b) (hg : tyAgg P f.type = some false),
          (((part f.type X f.offset).run P w).andThen fun a w' => ((part f.type Y f.offset).run P w').andThen fun b w' => ((Op.equalIn (n + 1) f.type a b).run P w').andThen fun r' w' =>
            (if (!r') = true then (pure false : Sem Bool) else Op.eqFields (n + 1) X Y r).run P w') = .ok b w := by
        intro he hg
        simp only [ev_bind] at he
        obtain ⟨b1, h1, he⟩ := bind_some he
        obtain ⟨b2, h2, he⟩ := bind_some he
        simp only [ev_ret, Option.some.injEq] at he
        subst he
        rw [run_part_one hg hu, Result.andThen_ok, run_part_one hg hv, Result.andThen_ok, eqCell_sound h1 hxu hyv (by simp) n f.type hd, Result.andThen_ok]
        cases b1
        · simp
        · simp [eqFields_sound hx hy n h2]
      have hg : ∀ d', P.underlying f.type = some d' → (match d' with | .struct _ | .array _ _ => true | _ => false) = false → tyAgg P f.type = some false := by
        intro d' h1 h2
        unfold tyAgg
        rw [h1]
        cases d' <;> simp_all
      split at h
      · simp at h
      · simp at h
      · exact key h (hg _ hd rfl)
      · exact key h (hg _ hd rfl)
      · exact key h (hg _ hd rfl)
      · simp at h
    · simp at h

theorem run_eqGuard_other {P : Program} {w : World} (op : BinOp) (t : TypeId) (x y : Operand) (u v : Value) (h1 : u = .nilIface → v = .nilIface → (isNilConst x || isNilConst y) = true) (h2 : ∀ a b, u = .agg a → v ≠ .agg b) :
    (eqGuard op t x y u v).run P w = .ok () w := by
  have nl : ∀ z : Operand, isNilConst z = true → z = .const .nilIface := by
    intro z hz
    unfold isNilConst at hz
    split at hz
    · rfl
    · simp at hz
  have key : (u = .nilIface ∧ v = .nilIface) ∨ ¬ (u = .nilIface ∧ v = .nilIface) := Classical.em _
  rcases key with ⟨rfl, rfl⟩ | hn
  · have := h1 rfl rfl
    simp only [Bool.or_eq_true] at this
    rcases this with h | h <;> obtain rfl := nl _ h <;> cases op <;> simp [eqGuard]
  · cases op <;> simp [eqGuard]
    all_goals
      split
      · exact absurd ⟨rfl, rfl⟩ hn
      · exact absurd rfl (h2 _ _ rfl)
      · rfl

def isn3 : Value → Value → Bool
  | .int _ _, .int _ _ | .string _, .string _ | .nilIface, .nilIface => true
  | _, _ => false

def isISN : Value → Bool
  | .int _ _ | .string _ | .nilIface => true
  | _ => false

/-- Whole numbers, texts and nil interfaces are told as what they are. -/
theorem eqCell_shape {B : Base} {w : World} {st : St} {ι : Nat → Nat} {d : TypeDesc} {x y : AV} {u v : Value} {b cy : Bool} (h : (eqCell cy d x y).ev st = some b) (hx : AVRep (ctx B st.bk w ι) x u) (hy : AVRep (ctx B st.bk w ι) y v)
    (h1 : isISN u = true) (h2 : isISN v = true) : x = .p (.lit u) ∧ y = .p (.lit v) ∧ isn3 u v = true := by
  unfold eqCell at h
  split at h <;> simp only [ev_ret, ev_fail, ev_bind, ev_chk, Option.some.injEq] at h
  all_goals try (simp at h; done)
  all_goals try (obtain ⟨_, rfl⟩ := avrep_lit.1 hx)
  all_goals try (obtain ⟨_, rfl⟩ := avrep_lit.1 hy)
  all_goals try (exact ⟨rfl, rfl, rfl⟩)
  all_goals try (simp [isISN] at h1; done)
  all_goals try (simp [isISN] at h2; done)
  · simp only [AVRep] at hy; subst hy
    simp [isISN] at h2
  · simp only [AVRep] at hy; subst hy
    simp [isISN] at h2
  · simp only [AVRep] at hy; subst hy
    simp [isISN] at h2
  · simp only [AVRep] at hy; subst hy
    simp [isISN] at h2
  · obtain ⟨_, rfl⟩ := avrep_ifc hx; simp [isISN] at h1
  · simp only [AVRep] at hx; obtain ⟨_, rfl⟩ := rep_ifc hx; simp [isISN] at h1
  · obtain ⟨_, rfl⟩ := avrep_ifc hy; simp [isISN] at h2

def isFC : Value → Bool
  | .float _ _ | .complex _ _ _ => true
  | _ => false

theorem eqCell_nofloat {B : Base} {w : World} {st : St} {ι : Nat → Nat} {d : TypeDesc} {x y : AV} {u v : Value} {b cy : Bool} (h : (eqCell cy d x y).ev st = some b) (hx : AVRep (ctx B st.bk w ι) x u) (hy : AVRep (ctx B st.bk w ι) y v) : isFC u = false := by
  unfold eqCell at h
  split at h <;> simp only [ev_ret, ev_fail, ev_bind, ev_chk, Option.some.injEq] at h
  all_goals try (simp at h; done)
  all_goals try (obtain ⟨_, rfl⟩ := avrep_lit.1 hx; rfl)
  all_goals try (obtain ⟨_, rfl⟩ := avrep_ifc hx; rfl)
  · obtain ⟨_, h1, h⟩ := bind_some h
    obtain ⟨b, rfl⟩ := livePtr_sound h1 hx; rfl
  · simp only [AVRep] at hx; obtain ⟨b, o, rfl, _⟩ := rep_ppt hx; rfl
  · simp only [AVRep] at hx; subst hx; rfl
  · obtain ⟨_, h1, h⟩ := bind_some h
    obtain ⟨_, h2, h⟩ := bind_some h
    obtain ⟨b, k, c, rfl⟩ := liveSl_sound h2 hx; rfl
  · simp only [AVRep] at hx; cases hx <;> rfl
  · simp only [AVRep] at hx; obtain ⟨_, a, rfl⟩ := hx; rfl
  · simp only [AVRep] at hx; obtain ⟨_, rfl⟩ := rep_ifc hx; rfl
  · obtain ⟨_, h1, h⟩ := bind_some h
    obtain ⟨b, rfl⟩ := liveMap_sound h1 hx; rfl

/-- Two values held against each other. -/
theorem evEq_sound {E : Env} {B : Base} {w : World} {st : St} {ι : Nat → Nat} {t : TypeId} {x y : AVal} {u v : Value} {b cy : Bool} (h : (evEq E cy t x y).ev st = some b) (hx : VRep (ctx B st.bk w ι) x u) (hy : VRep (ctx B st.bk w ι) y v)
    (hcy : cy = true → v = .slice none 0 0) : (Op.equal t u v).run E.P w = .ok b w ∧
    ((∃ a c, u = .agg a ∧ v = .agg c) → E.P.eqGuardType E.P.depth t = false) ∧ (isISN u = true → isISN v = true → x = litV u ∧ y = litV v ∧ isn3 u v = true) ∧ isFC u = false := by
  unfold evEq at h
  split at h
  · rename_i a c
    rw [vrep_one] at hx hy
    split at h
    · rename_i d hd
      refine ⟨eqCell_sound h hx hy hcy 9999 t hd, ?_, fun h1 h2 => ?_, eqCell_nofloat h hx hy⟩
      · rintro ⟨p, q, rfl, rfl⟩
        have := AVRep.one _ _ hx
        simp [Value.oneCell'] at this
      · obtain ⟨rfl, rfl, h3⟩ := eqCell_shape h hx hy h1 h2
        exact ⟨rfl, rfl, h3⟩
    · simp at h
  · rename_i xs ys
    obtain ⟨X, rfl, hX⟩ := hx
    obtain ⟨Y, rfl, hY⟩ := hy
    split at h
    · rename_i fs hfs
      simp only [ev_bind, ev_chk] at h
      obtain ⟨_, h1, h⟩ := bind_some h
      obtain ⟨_, h2, h⟩ := bind_some h
      have h1 : E.P.stoodInHeld t = false := by revert h1; cases E.P.stoodInHeld t <;> simp
      have h2 : E.P.eqGuardType E.P.depth t = false := by revert h2; cases E.P.eqGuardType E.P.depth t <;> simp
      refine ⟨?_, fun _ => h2, fun h3 => by simp [isISN] at h3, rfl⟩
      have hf : E.P.fieldsOf t = fs := by simp [Program.fieldsOf, hfs]
      show (Op.equalIn (9999 + 1) t (.agg X) (.agg Y)).run E.P w = _
      rw [run_equalIn_struct w 9999 t X Y (by rw [hf]; exact hfs) h1, hf]
      exact eqFields_sound hX hY 9998 h
    · simp at h
  · simp at h

theorem run_binOp_eql {P : Program} {w : World} {t : TypeId} {u v : Value} (h : ¬ (isISN u = true ∧ isISN v = true)) (hf : isFC u = false) :
    (binOp .eql t u v).run P w = ((Op.equal t u v).run P w).andThen (fun b w' => .ok (.bool b) w') ∧ (binOp .neq t u v).run P w = ((Op.equal t u v).run P w).andThen (fun b w' => .ok (.bool (!b)) w') := by
  cases u <;> cases v <;> first
    | (simp [isISN] at h; done)
    | (simp [isFC] at hf; done)
    | (constructor <;> simp [binOp])

theorem evBinOp_sound {E : Env} {B : Base} {w : World} {st : St} {ι : Nat → Nat} {op : BinOp} {t : TypeId} {ox oy : Operand} {x y r : AVal} {u v : Value} (h : (evBinOp E op t ox oy x y).ev st = some r)
    (hx : VRep (ctx B st.bk w ι) x u) (hy : VRep (ctx B st.bk w ι) y v) (hc : isNilSl oy = true → v = .slice none 0 0) :
    ∃ z, ((eqGuard op t ox oy u v).run E.P w).andThen (fun _ w' => (binOp op t u v).run E.P w') = .ok z w ∧ VRep (ctx B st.bk w ι) r z := by
  have flat : ∀ {a b c : Value}, x = litV a → y = litV b → (∀ p, a ≠ .agg p) → a ≠ .nilIface → (evBin op a b).ev st = some c → r = litV c →
      ∃ z, ((eqGuard op t ox oy u v).run E.P w).andThen (fun _ w' => (binOp op t u v).run E.P w') = .ok z w ∧ VRep (ctx B st.bk w ι) r z := by
    rintro a b c rfl rfl ha hn he rfl
    obtain ⟨_, rfl⟩ := vrep_lit.1 hx
    obtain ⟨_, rfl⟩ := vrep_lit.1 hy
    obtain ⟨h1, h2⟩ := evBin_sound (P := E.P) (w := w) t he
    refine ⟨c, ?_, vrep_lit.2 ⟨h2, rfl⟩⟩
    rw [run_eqGuard_other op t ox oy _ _ (fun h => absurd h hn) (fun p q h => absurd h (ha p)), Result.andThen_ok, h1]
  unfold evBinOp at h
  split at h
  · simp only [ev_bind] at h
    obtain ⟨c, h1, h⟩ := bind_some h
    simp only [ev_ret, Option.some.injEq] at h
    exact flat rfl rfl (by simp) (by simp) h1 h.symm
  · simp only [ev_bind] at h
    obtain ⟨c, h1, h⟩ := bind_some h
    simp only [ev_ret, Option.some.injEq] at h
    exact flat rfl rfl (by simp) (by simp) h1 h.symm
  · rename_i hni hns
    have eqv : ∀ {b : Bool}, (nilGuard ox oy x y).ev st = some () → (evEq E (isNilSl oy) t x y).ev st = some b →
        (eqGuard op t ox oy u v).run E.P w = .ok () w ∧ (Op.equal t u v).run E.P w = .ok b w ∧ (binOp .eql t u v).run E.P w = .ok (.bool b) w ∧ (binOp .neq t u v).run E.P w = .ok (.bool (!b)) w := by
      intro b hn he
      obtain ⟨h1, h2, h3, hfc⟩ := evEq_sound he hx hy hc
      have guard : (eqGuard op t ox oy u v).run E.P w = .ok () w := by
        by_cases hag : ∃ a c, u = .agg a ∧ v = .agg c
        · obtain ⟨a, c, rfl, rfl⟩ := hag
          exact run_eqGuard_agg w op t ox oy a c (h2 ⟨a, c, rfl, rfl⟩)
        · refine run_eqGuard_other op t ox oy u v ?_ (fun a c h3 h4 => hag ⟨a, c, h3, h4⟩)
          rintro rfl rfl
          obtain ⟨rfl, rfl, _⟩ := h3 rfl rfl
          simp only [nilGuard, litV, ev_chk] at hn
          revert hn
          cases (isNilConst ox || isNilConst oy) <;> simp
      refine ⟨guard, h1, ?_⟩
      by_cases hisn : isISN u = true ∧ isISN v = true
      · obtain ⟨rfl, rfl, h4⟩ := h3 hisn.1 hisn.2
        unfold isn3 at h4
        split at h4
        · exact (hni _ _ _ _ rfl rfl).elim
        · exact (hns _ _ rfl rfl).elim
        · simp only [binOp, Sem.run_bind, h1, Result.andThen_ok, Sem.run_pure, and_self]
        · simp at h4
      · obtain ⟨h4, h5⟩ := run_binOp_eql (P := E.P) (w := w) (t := t) hisn hfc
        rw [h4, h5, h1]
        exact ⟨rfl, rfl⟩
    split at h
    · simp only [ev_bind] at h
      obtain ⟨_, h1, h⟩ := bind_some h
      obtain ⟨b, h2, h⟩ := bind_some h
      simp only [ev_ret, Option.some.injEq] at h
      subst h
      obtain ⟨h3, _, h5, _⟩ := eqv h1 h2
      exact ⟨_, by rw [h3, Result.andThen_ok, h5], vrep_lit.2 ⟨rfl, rfl⟩⟩
    · simp only [ev_bind] at h
      obtain ⟨_, h1, h⟩ := bind_some h
      obtain ⟨b, h2, h⟩ := bind_some h
      simp only [ev_ret, Option.some.injEq] at h
      subst h
      obtain ⟨h3, _, _, h5⟩ := eqv h1 h2
      exact ⟨_, by rw [h3, Result.andThen_ok, h5], vrep_lit.2 ⟨rfl, rfl⟩⟩
    · simp at h

end Go.Proofs.YtggofahhehkbbaaGreatDoor.Ev
