/- Operations that compute: sound. -/
import Derived.Test.YtggofahhehkbbaaGreatDoorEvVal
import Derived.Laws.Strings
namespace Go.Proofs.YtggofahhehkbbaaGreatDoor.Ev
set_option autoImplicit false
set_option linter.unusedVariables false
set_option linter.unusedSimpArgs false

/-- What an operation's run has to do with the evaluator's answer. -/
def OpRes (P : Program) (B : Base) (st : St) (w : World) (ι : Nat → Nat) (a : Act) (o : Oper) : OpOut → Prop
  | .val x bw => ∃ v w' ι', (execOp a.eval o).run P w = .ok (.value v) w' ∧ Ext (ctx B st.bk w ι) (ctx B (st.setBs bw).bk w' ι') ∧ Sim B (st.setBs bw) w' ι' a.tmps ∧ VRep (ctx B (st.setBs bw).bk w' ι') x v
  | .skip bw => ∃ w' ι', (execOp a.eval o).run P w = .ok .skip w' ∧ Ext (ctx B st.bk w ι) (ctx B (st.setBs bw).bk w' ι') ∧ Sim B (st.setBs bw) w' ι' a.tmps
  | .pan x bw => ∃ v w' ι', (execOp a.eval o).run P w = .halt (.panic v) w' ∧ Ext (ctx B st.bk w ι) (ctx B (st.setBs bw).bk w' ι') ∧ SimB B (st.setBs bw).bk w' ι' ∧ AVRep (ctx B (st.setBs bw).bk w' ι') x v

theorem OpRes.same {P : Program} {B : Base} {st : St} {w : World} {ι : Nat → Nat} {a : Act} {o : Oper} {x : AVal} {v : Value} (h : Sim B st w ι a.tmps) (hr : (execOp a.eval o).run P w = .ok (.value v) w)
    (hv : VRep (ctx B st.bk w ι) x v) : OpRes P B st w ι a o (.val x []) := ⟨v, w, ι, hr, Ext.refl _, h, hv⟩

/-! ### Texts -/
theorem lst_toList (s : ByteArray) : s.toList = lst s := ByteArray.toList_eq s
theorem lst_size (s : ByteArray) : (lst s).length = s.size := by cases s; simp [lst, ByteArray.size]
theorem mkS_lst (s : ByteArray) : mkS (lst s) = s := by cases s; simp [lst, mkS]
@[simp] theorem lst_mkS (l : List UInt8) : lst (mkS l) = l := rfl
theorem mkS_append (a b : ByteArray) : a ++ b = mkS (lst a ++ lst b) := by
  apply ByteArray.ext
  simp [mkS, lst, ByteArray.data_append]
theorem mkS_extract (s : ByteArray) (l h : Nat) : s.extract l h = mkS (((lst s).take h).drop l) := by
  apply ByteArray.ext
  rw [ByteArray.data_extract]
  simp only [mkS, lst]
  apply Array.toList_inj.1
  rw [Array.toList_extract]
  rw [List.extract_eq_take_drop]
  simp [List.drop_take]
theorem lst_inj {a b : ByteArray} (h : lst a = lst b) : a = b := by rw [← mkS_lst a, ← mkS_lst b, h]
theorem beq_lst (a b : ByteArray) : (lst a == lst b) = (a == b) := by
  show _ = (a.data == b.data)
  rw [Bool.eq_iff_iff]
  simp [lst]

theorem evBin_sound {P : Program} {w : World} {st : St} {op : BinOp} {x y r : Value} (t : TypeId) (h : (evBin op x y).ev st = some r) : (binOp op t x y).run P w = .ok r w ∧ flatV r = true := by
  unfold evBin at h
  split at h
  · rename_i k a k' b
    cases op <;> simp only [ev_bind, ev_chk, ev_fail] at h <;>
      first
      | (split at h
         · rename_i hk
           simp only [decide_eq_true_eq] at hk
           simp only [Option.bind_some] at h
           first
             | (simp only [ev_ret, Option.some.injEq] at h
                subst h
                try subst hk
                simp [binOp, Op.shift, Op.intArith, Op.intBits, Op.intCmp, flatV, show ¬ b < 0 by omega]
                done)
             | (simp only [ev_ret, Option.some.injEq] at h
                subst h
                try subst hk
                simp [binOp, Op.intArith, Op.intBits, Op.intCmp, flatV]
                try (first | rfl | (rw [Bool.eq_iff_iff]; simp [bne, beq_iff_eq])))
             | (by_cases hb : b = 0
                · simp [hb] at h
                  done
                · simp [hb] at h
                  subst h hk
                  simp [binOp, Op.intDiv, flatV, hb]
                  done)
             | simp at h
         · simp at h)
  · rename_i a b
    have hs : a.size + b.size = (lst a).length + (lst b).length := by rw [lst_size, lst_size]
    cases op <;> simp only [ev_bind, ev_chk, ev_fail, ev_ret] at h <;>
      first
      | (simp at h; done)
      | (split at h
         · rename_i hk
           simp only [decide_eq_true_eq] at hk
           simp only [Option.bind_some, ev_ret, Option.some.injEq] at h
           subst h
           have : ¬ (((a.size + b.size : Nat) : Int) > IntKind.i64.max) := by
             rw [hs]
             have : IntKind.i64.max = 9223372036854775807 := rfl
             rw [this]; omega
           simp only [binOp, Op.stringOp, this, if_false, Sem.run_pure, flatV, and_true]
           rw [mkS_append]
         · simp at h)
      | (simp only [Option.some.injEq] at h
         subst h
         simp only [binOp, Op.stringOp, lst_toList, Sem.run_pure, flatV, and_self])
  · simp at h

theorem evUn_sound {P : Program} {w : World} {st : St} {op : UnOp} {x r : Value} (h : (evUn op x).ev st = some r) : (Op.unary op x).run P w = .ok r w ∧ flatV r = true := by
  unfold evUn at h
  split at h <;> simp only [ev_ret, ev_fail, Option.some.injEq] at h
  · subst h; exact ⟨rfl, rfl⟩
  · subst h; exact ⟨rfl, rfl⟩
  · subst h; exact ⟨rfl, rfl⟩
  · simp at h


/-! ### Equality -/
theorem run_under {P : Program} {t : TypeId} {d : TypeDesc} (h : P.underlying t = some d) (w : World) : (underlying t).run P w = .ok d w := run_underlying' h w

theorem slice_nonnil {w : World} {N : Nat → Prop} {es : List (List PV)} {v : Value} (h : Rep w N (.sl es) v) (he : (!es.isEmpty) = true) : ∃ b n c, v = .slice (some b) n c := by
  cases h with
  | nil => simp at he
  | sl es b o cap sz V hb hcap hsz hc hr => exact ⟨_, _, _, rfl⟩

theorem livePtr_sound {B : Base} {st : St} {w : World} {ι : Nat → Nat} {id ep i off : Nat} {v : Value} (h : (livePtr id ep i).ev st = some ()) (hv : AVRep (ctx B st.bk w ι) (.ptr id ep i off) v) : ∃ b, v = .pointer (some b) := by
  simp only [AVRep] at hv
  obtain ⟨b, hb, h1, h2, h3⟩ := hv
  simp only [ctx] at hb
  simp only [livePtr, ev_bind, ev_getB, Option.bind_some, hb] at h
  cases b with
  | box ty cs =>
    simp only [ev_chk] at h
    split at h
    · rename_i he
      simp only [Bool.and_eq_true] at he
      exact ⟨_, h2 ty cs rfl (Nat.eq_of_beq_eq_true he.1) (Nat.eq_of_beq_eq_true he.2)⟩
    · simp at h
  | arr ep' ty sz fz es =>
    simp only [ev_chk] at h
    split at h
    · rename_i he
      exact ⟨_, ((h3 _ _ _ _ _ rfl).2 (Nat.eq_of_beq_eq_true he)).2⟩
    · simp at h
  | _ => simp at h

theorem liveSl_sound {B : Base} {st : St} {w : World} {ι : Nat → Nat} {id ep : Nat} {v : Value} (h : (liveSl id ep).ev st = some ()) (hv : AVRep (ctx B st.bk w ι) (.own id ep) v) : ∃ b n c, v = .slice (some b) n c := by
  simp only [AVRep] at hv
  obtain ⟨b, hb, h1, h3⟩ := hv
  simp only [ctx] at hb
  simp only [liveSl, ev_bind, ev_getB, Option.bind_some, hb] at h
  cases b with
  | arr ep' ty sz fz es =>
    simp only [ev_chk] at h
    split at h
    · rename_i he
      obtain ⟨cap, h4, _⟩ := (h3 _ _ _ _ _ rfl).2 (Nat.eq_of_beq_eq_true he)
      exact ⟨_, _, _, h4⟩
    · simp at h
  | _ => simp at h

theorem liveMap_sound {B : Base} {st : St} {w : World} {ι : Nat → Nat} {id : Nat} {v : Value} (h : (liveMap id).ev st = some ()) (hv : AVRep (ctx B st.bk w ι) (.mp id) v) : ∃ b, v = .map (some b) := by
  simp only [AVRep] at hv
  obtain ⟨b, hb, h1, h3⟩ := hv
  simp only [ctx] at hb
  simp only [liveMap, ev_bind, ev_getB, Option.bind_some, hb] at h
  cases b with
  | map es => exact ⟨_, h3 es rfl⟩
  | _ => simp at h

theorem rep_ppt {w : World} {N : Nat → Prop} {cs : List PV} {off : Nat} {v : Value} (h : Rep w N (.ppt cs off) v) : ∃ b o, v = .pointer (some ⟨b, o + off, none⟩) ∧ N b ∧ ∀ j q, cs[j]? = some q → ∃ u, w.cell? ⟨b, o + j, none⟩ = some u ∧ Rep w N q u := by
  cases h with
  | ppt cs off b o V hb hc hr => exact ⟨b, o, rfl, hb, fun j q hj => ⟨V j, hc j q hj, hr j q hj⟩⟩

theorem rep_ifc {w : World} {N : Nat → Prop} {t : TypeId} {g : Bool} {cs : List PV} {v : Value} (h : Rep w N (.ifc t g cs) v) : ∃ u, v = .iface t u := by
  cases h with
  | ifcA t cs C hs hr => exact ⟨_, rfl⟩
  | ifcO t q v hr => exact ⟨_, rfl⟩

theorem avrep_ifc {c : RepCtx} {t : TypeId} {g : Bool} {cs : List AV} {v : Value} (h : AVRep c (.ifc t g cs) v) : ∃ u, v = .iface t u := by
  simp only [AVRep] at h
  obtain ⟨C, _, h⟩ := h
  cases g with
  | true => exact ⟨_, h⟩
  | false => obtain ⟨u, _, h⟩ := h; exact ⟨u, h⟩

/-- Two cells of one type held against each other; nothing is asked of the world. -/
theorem eqCell_sound {P : Program} {B : Base} {w : World} {st : St} {ι : Nat → Nat} {d : TypeDesc} {x y : AV} {u v : Value} {b cy : Bool} (h : (eqCell cy d x y).ev st = some b) (hx : AVRep (ctx B st.bk w ι) x u) (hy : AVRep (ctx B st.bk w ι) y v)
    (hcy : cy = true → v = .slice none 0 0) (n : Nat) (t : TypeId) (hd : P.underlying t = some d) : (Op.equalIn (n + 1) t u v).run P w = .ok b w := by
  have hu := run_under hd w
  unfold eqCell at h
  split at h <;> simp only [ev_ret, ev_fail, ev_bind, ev_chk, Option.some.injEq] at h
  · subst h
    obtain ⟨_, rfl⟩ := avrep_lit.1 hx
    obtain ⟨_, rfl⟩ := avrep_lit.1 hy
    simp [Op.equalIn, hu]
  · obtain ⟨_, rfl⟩ := avrep_lit.1 hx
    obtain ⟨_, rfl⟩ := avrep_lit.1 hy
    split at h
    · rename_i hk
      simp only [decide_eq_true_eq] at hk
      subst hk
      simp at h
      subst h
      simp only [Op.equalIn, Sem.run_bind, hu, Result.andThen_ok, if_true, Sem.run_pure]
      rfl
    · simp at h
  · subst h
    obtain ⟨_, rfl⟩ := avrep_lit.1 hx
    obtain ⟨_, rfl⟩ := avrep_lit.1 hy
    simp [Op.equalIn, hu, beq_lst]
  · subst h
    obtain ⟨_, rfl⟩ := avrep_lit.1 hx
    obtain ⟨_, rfl⟩ := avrep_lit.1 hy
    simp [Op.equalIn, hu]
  · obtain ⟨_, h1, h⟩ := bind_some h
    simp at h
    subst h
    obtain ⟨_, rfl⟩ := avrep_lit.1 hx
    obtain ⟨b, rfl⟩ := livePtr_sound h1 hy
    simp [Op.equalIn, hu]
  · obtain ⟨_, h1, h⟩ := bind_some h
    simp at h
    subst h
    obtain ⟨_, rfl⟩ := avrep_lit.1 hy
    obtain ⟨b, rfl⟩ := livePtr_sound h1 hx
    simp [Op.equalIn, hu]
  · subst h
    obtain ⟨_, rfl⟩ := avrep_lit.1 hx
    simp only [AVRep] at hy
    obtain ⟨b, o, rfl, _⟩ := rep_ppt hy
    simp [Op.equalIn, hu]
  · subst h
    obtain ⟨_, rfl⟩ := avrep_lit.1 hy
    simp only [AVRep] at hx
    obtain ⟨b, o, rfl, _⟩ := rep_ppt hx
    simp [Op.equalIn, hu]
  · subst h
    simp only [AVRep] at hx hy
    subst hx
    subst hy
    simp [Op.equalIn, hu]
  · obtain ⟨_, h1, h⟩ := bind_some h
    obtain ⟨_, h2, h⟩ := bind_some h
    simp at h
    subst h
    have : cy = true := by revert h1; cases cy <;> simp
    obtain rfl := hcy this
    obtain ⟨b, k, c, rfl⟩ := liveSl_sound h2 hx
    simp [Op.equalIn, hu]
  · obtain ⟨_, h1, h⟩ := bind_some h
    simp at h
    subst h
    split at h1
    · rename_i hk
      simp only [Bool.and_eq_true] at hk
      obtain rfl := hcy hk.1
      simp only [AVRep] at hx
      obtain ⟨b, k, c, rfl⟩ := slice_nonnil hx hk.2
      simp [Op.equalIn, hu]
    · simp at h1
  · obtain ⟨_, h1, h⟩ := bind_some h
    simp at h
    subst h
    split at h1
    · rename_i hk
      simp only [Bool.and_eq_true] at hk
      obtain rfl := hcy hk.1
      simp only [AVRep] at hx
      obtain ⟨b, k, c, rfl⟩ := slice_nonnil hx.1 hk.2
      simp [Op.equalIn, hu]
    · simp at h1
  · subst h
    obtain ⟨_, rfl⟩ := avrep_lit.1 hx
    obtain ⟨_, rfl⟩ := avrep_lit.1 hy
    simp [Op.equalIn, hu]
  · subst h
    obtain ⟨_, rfl⟩ := avrep_lit.1 hy
    obtain ⟨u, rfl⟩ := avrep_ifc hx
    simp [Op.equalIn, hu]
  · subst h
    obtain ⟨_, rfl⟩ := avrep_lit.1 hy
    simp only [AVRep] at hx
    obtain ⟨u, rfl⟩ := rep_ifc hx
    simp [Op.equalIn, hu]
  · subst h
    obtain ⟨_, rfl⟩ := avrep_lit.1 hx
    obtain ⟨u, rfl⟩ := avrep_ifc hy
    simp [Op.equalIn, hu]
  · subst h
    obtain ⟨_, rfl⟩ := avrep_lit.1 hx
    obtain ⟨_, rfl⟩ := avrep_lit.1 hy
    simp [Op.equalIn, hu]
  · obtain ⟨_, h1, h⟩ := bind_some h
    simp at h
    subst h
    obtain ⟨_, rfl⟩ := avrep_lit.1 hy
    obtain ⟨b, rfl⟩ := liveMap_sound h1 hx
    simp [Op.equalIn, hu]
  · simp at h

end Go.Proofs.YtggofahhehkbbaaGreatDoor.Ev
