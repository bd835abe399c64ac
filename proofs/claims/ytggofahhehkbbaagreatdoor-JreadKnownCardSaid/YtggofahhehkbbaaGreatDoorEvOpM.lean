/- Every operation but a call: sound, all in one. -/
import Derived.Test.YtggofahhehkbbaaGreatDoorEvOpL
namespace Go.Proofs.YtggofahhehkbbaaGreatDoor.Ev
set_option autoImplicit false
set_option linter.unusedVariables false
set_option linter.unusedSimpArgs false

theorem repL_pure {c : RepCtx} : ∀ (cs : List PV) (C : List Value), C.length = cs.length → (∀ (j : Nat) q v, cs[j]? = some q → C[j]? = some v → Rep c.w c.N q v) → AVRepL c (cs.map .p) C
  | [], [], _, _ => rfl
  | [], _ :: _, h, _ => by simp at h
  | _ :: _, [], h, _ => by simp at h
  | q :: cs, v :: C, h, hr => by
    refine ⟨v, C, rfl, ?_, repL_pure cs C (by simpa using h) fun j q' v' h1 h2 => hr (j + 1) q' v' (by simpa using h1) (by simpa using h2)⟩
    simp only [AVRep]
    exact hr 0 q v rfl rfl

theorem unIfc_rep {c : RepCtx} {x : AV} {v : Value} (h : AVRep c x v) : AVRep c (unIfc x) v := by
  unfold unIfc
  split
  case h_2 => exact h
  case h_1 t g cs =>
    simp only [AVRep] at h
    generalize hq : PV.ifc t g cs = q at h
    cases h with
    | ifcA t' cs' C hs hr =>
      simp only [PV.ifc.injEq] at hq
      obtain ⟨rfl, rfl, rfl⟩ := hq
      refine ⟨C.toList, repL_pure cs _ (by rw [Array.length_toList]; exact hs) fun j q v h1 h2 => ?_, by simp⟩
      rw [Array.getElem?_toList] at h2
      obtain ⟨hj, rfl⟩ := Array.getElem?_eq_some_iff.1 h2
      exact hr j q hj h1
    | ifcO t' q' v' hr =>
      simp only [PV.ifc.injEq] at hq
      obtain ⟨rfl, rfl, rfl⟩ := hq
      refine ⟨[v'], ⟨v', [], rfl, by simp only [AVRep]; exact hr, rfl⟩, v', rfl, rfl⟩
    | _ => simp at hq

theorem opM_sound {E : Env} {B : Base} {st : St} {w : World} {ι : Nat → Nat} {a : Act} {o : Oper} {hd : Handler} {base : Nat} {out : OpOut} (h : Sim B st w ι a.tmps) (hB : BaseOK B) (hg : GlobOK E B) (hno : isCall o = false)
    (he : (opM E hd base o).ev st = some out) : OpRes E.P B st w ι a o out := by
  have hs := h.toSimB
  unfold opM at he
  cases hop : o.op with
  | move x =>
    rw [hop] at he
    obtain ⟨v, h1, rfl⟩ := val_ev he
    exact OpRes.same h (by simp [execOp, hop]) (opd_sound h hB hg h1)
  | assign x =>
    rw [hop] at he
    obtain ⟨v, h1, rfl⟩ := val_ev he
    exact OpRes.same h (by simp [execOp, hop]) (opd_sound h hB hg h1)
  | alloc t =>
    rw [hop] at he
    simp only [ev_bind, ev_ofOpt] at he
    replace he := bind_some he; obtain ⟨cs, h1, he⟩ := he
    replace he := bind_some he; obtain ⟨_, h2, he⟩ := he
    simp only [ev_ret, Option.some.injEq] at he
    subst he
    have h2 := freeId_ev h2
    obtain ⟨i, z, h3, h4, h5⟩ := zeroCells_spec h1
    obtain ⟨e1, s1, v1⟩ := hs.newBox h2 (cs := cs) (C := z.cells) t (mapM_const h5)
    refine OpRes.ofVal h (s := Instr.alloc t true (.tuple #[])) (by simp [execOp, hop]) ⟨_, _, _, ?_, e1, s1, by rw [vrep_one]; exact v1⟩
    simp [Instr.alloc, run_zeroValue h3 h4, newVar, newRow]
  | box t x =>
    rw [hop] at he
    simp only [ev_bind] at he
    replace he := bind_some he; obtain ⟨v, h1, he⟩ := he
    replace he := bind_some he; obtain ⟨cs, h2, he⟩ := he
    replace he := bind_some he; obtain ⟨_, h3, he⟩ := he
    simp only [ev_ret, Option.some.injEq] at he
    subst he
    obtain ⟨g, rfl⟩ := asCells_ev h2
    have h3 := freeId_ev h3
    have h4 := opd_sound h hB hg h1
    obtain ⟨e1, s1, v1⟩ := hs.newBox h3 (cs := cs) (C := (a.eval x).cells) t (vrep_cells h4)
    refine OpRes.ofVal h (s := Instr.box t (a.eval x)) (by simp [execOp, hop]) ⟨_, _, _, ?_, e1, s1, by rw [vrep_one]; exact v1⟩
    simp [Instr.box, newVar, newRow]
  | build t parts =>
    rw [hop] at he
    simp only [ev_bind, ev_ofOpt] at he
    replace he := bind_some he; obtain ⟨_, h0, he⟩ := he
    replace he := bind_some he; obtain ⟨cs, h1, he⟩ := he
    replace he := bind_some he; obtain ⟨ps, h2, he⟩ := he
    replace he := bind_some he; obtain ⟨r, h3, he⟩ := he
    simp only [ev_ret, Option.some.injEq] at he
    subst he
    obtain ⟨i, z, h4, h5, h6⟩ := zeroCells_spec h1
    obtain ⟨C', h7, h8, _⟩ := fillC_sound (C := z.cells) h3 (partsM_sound h hB hg h2) (mapM_const h6)
    refine OpRes.ofVal h (s := Instr.build t (parts.map fun (i, x) => (i, a.eval x))) (by simp [execOp, hop]) (same_val (run_build (chk_some h0) h4 h5 (C := C') (by simpa using h7)) ⟨C', rfl, h8⟩ hs)
  | buildSlice t len parts =>
    rw [hop] at he
    simp only at he
    cases hd : E.P.underlying t with
    | none => rw [hd] at he; simp at he
    | some d =>
    rw [hd] at he
    cases d with
    | slice e =>
      simp only at he
      split at he
      case h_2 => simp at he
      case h_1 sz z hsz hz =>
        simp only [ev_bind] at he
        replace he := bind_some he; obtain ⟨_, h0, he⟩ := he
        have h0 := chk_some h0
        simp only [Bool.and_eq_true] at h0
        obtain ⟨hzl, hlen⟩ := h0
        have hzl := beqN hzl
        have hlen := Nat.le_of_ble_eq_true hlen
        replace he := bind_some he; obtain ⟨ps, h1, he⟩ := he
        replace he := bind_some he; obtain ⟨⟨qs, bw1⟩, h2, he⟩ := he
        replace he := bind_some he; obtain ⟨es, h3, he⟩ := he
        obtain ⟨i, zv, hi, hiz, hzr⟩ := zeroE_spec hz
        obtain ⟨s1, e1, p1⟩ := pureParts_sound (st := st) (bw := []) hs h2 (partsM_sound h hB hg h1)
        have hzs : zv.cells.size = sz + 1 := by
          have := (hzr w (nav B st.bk w ι)).length
          rw [hzl] at this
          simpa using this
        obtain ⟨C', h4, h5, h6, h7, h8⟩ := fillE_sound (C := (Array.range (len * (sz + 1))).map (zv.cells[· % zv.cells.size]!)) h3 p1 (by simp) (tells_zero (Nat.succ_pos sz) hzl hzs (hzr _ _)) (fun x hx => by rw [List.eq_of_mem_replicate hx]; exact hzl)
        have hrun := run_buildSlice (w := w) hd hsz hi hiz hlen (parts := parts.map fun (i, x) => (i, a.eval x)) (C := C') (by simpa using h4)
        rw [List.length_replicate] at h7
        have hexec : execOp a.eval o = (do pure (.value (← Instr.buildSlice t len (parts.map fun (i, x) => (i, a.eval x))))) := by simp [execOp, hop]
        cases len with
        | zero =>
          simp only [ev_ret, Option.some.injEq] at he
          subst he
          obtain ⟨e2, s2⟩ := s1.grow (.cells C' e)
          have hes : es = [] := List.length_eq_zero_iff.1 h7
          subst hes
          refine OpRes.ofVal h hexec ⟨_, _, _, hrun, e1.trans e2 (Nat.le_refl _), s2, ?_⟩
          rw [vrep_one]
          simp only [AVRep]
          exact ⟨.nil _ _, _, rfl⟩
        | succ n =>
          simp only [ev_bind] at he
          replace he := bind_some he; obtain ⟨_, h9, he⟩ := he
          simp only [ev_ret, Option.some.injEq] at he
          subst he
          have h9 := freeId_ev h9
          obtain ⟨e2, s2, v2⟩ := s1.newArr (id := base) h9 (es := es) (C := C') (e := e) (f := (0, 0)) (sz := sz + 1) (cap := n + 1) (Nat.succ_pos _) (okFz0 _) (by rw [h6]; simp) (by omega) (by
            have : (n + 1) * 1 ≤ (n + 1) * (sz + 1) := Nat.mul_le_mul_left _ (by omega)
            omega) h8 h5
          refine OpRes.ofVal h hexec ⟨_, _, _, hrun, e1.trans e2 (Nat.le_refl _), s2, ?_⟩
          rw [vrep_one]
          rw [h7] at v2
          exact v2
    | _ => simp at he
  | load t x =>
    rw [hop] at he
    obtain ⟨v, h1, rfl⟩ := val_ev he
    simp only [ev_bind] at h1
    replace h1 := bind_some h1; obtain ⟨u, h2, h1⟩ := h1
    replace h1 := bind_some h1; obtain ⟨c, h3, h1⟩ := h1
    obtain rfl := asOne_ev h3
    have h4 := opd_sound h hB hg h2
    rw [vrep_one] at h4
    obtain ⟨u, h5, h6⟩ := loadM_sound hs h1 h4
    exact OpRes.ofVal h (s := Instr.loadAt t (a.eval x)) (by simp [execOp, hop]) (same_val h5 h6 hs)
  | store t x y =>
    rw [hop] at he
    simp only [ev_bind] at he
    replace he := bind_some he; obtain ⟨u, h2, he⟩ := he
    replace he := bind_some he; obtain ⟨c, h3, he⟩ := he
    obtain rfl := asOne_ev h3
    have h4 := opd_sound h hB hg h2
    rw [vrep_one] at h4
    replace he := bind_some he; obtain ⟨v, h5, he⟩ := he
    replace he := bind_some he; obtain ⟨cs, h6, he⟩ := he
    obtain ⟨g, rfl⟩ := asCells_ev h6
    have h7 := opd_sound h hB hg h5
    replace he := bind_some he; obtain ⟨bw, h8, he⟩ := he
    simp only [ev_ret, Option.some.injEq] at he
    subst he
    obtain ⟨w', h9, h10, h11⟩ := storeM_sound hs h8 h4 h7
    exact OpRes.ofSkip h (s := Instr.storeAt t (a.eval x) (a.eval y)) (by simp [execOp, hop]) ⟨w', ι, h9, h10, h11⟩
  | nilCheck x =>
    rw [hop] at he
    obtain ⟨v, h1, rfl⟩ := val_ev he
    simp only [ev_bind] at h1
    replace h1 := bind_some h1; obtain ⟨u, h2, h1⟩ := h1
    replace h1 := bind_some h1; obtain ⟨c, h3, h1⟩ := h1
    obtain rfl := asOne_ev h3
    have h4 := opd_sound h hB hg h2
    rw [vrep_one] at h4
    split at h1
    · simp only [ev_bind] at h1
      replace h1 := bind_some h1; obtain ⟨_, h5, h1⟩ := h1
      simp only [ev_ret, Option.some.injEq] at h1
      subst h1
      obtain ⟨b, h6⟩ := livePtr_sound h5 h4
      refine OpRes.same h ?_ (vrep_one.2 h4)
      simp [execOp, hop, h6]
    · simp only [ev_ret, Option.some.injEq] at h1
      subst h1
      have h5 := h4
      simp only [AVRep] at h5
      obtain ⟨b, o', h6, _⟩ := rep_ppt h5
      refine OpRes.same h ?_ (vrep_one.2 h4)
      simp [execOp, hop, h6]
    · simp only [ev_ret, Option.some.injEq] at h1
      subst h1
      have h5 := h4
      simp only [AVRep] at h5
      obtain ⟨F, K, h6, _⟩ := h5
      refine OpRes.same h ?_ (vrep_one.2 h4)
      simp [execOp, hop, h6]
    · simp at h1
  | binOp op t x y z =>
    rw [hop] at he
    obtain ⟨v, h1, rfl⟩ := val_ev he
    simp only [ev_bind] at h1
    replace h1 := bind_some h1; obtain ⟨u1, h2, h1⟩ := h1
    replace h1 := bind_some h1; obtain ⟨u2, h3, h1⟩ := h1
    have h4 := opd_sound h hB hg h2
    have h5 := opd_sound h hB hg h3
    obtain ⟨r, h6, h7⟩ := evBinOp_sound h1 h4 h5 (fun hn => by
      unfold isNilSl at hn
      split at hn
      · rfl
      · simp at hn)
    exact OpRes.ofVal h (s := (do eqGuard op t x y (a.eval x) (a.eval y); binOp op t (a.eval x) (a.eval y))) (by simp [execOp, hop]) (same_val (by rw [Sem.run_bind]; exact h6) h7 hs)
  | unOp op t x =>
    rw [hop] at he
    obtain ⟨v, h1, rfl⟩ := val_ev he
    simp only [ev_bind] at h1
    replace h1 := bind_some h1; obtain ⟨u1, h2, h1⟩ := h1
    replace h1 := bind_some h1; obtain ⟨l, h3, h1⟩ := h1
    obtain rfl := asLit_ev h3
    replace h1 := bind_some h1; obtain ⟨r, h4, h1⟩ := h1
    simp only [ev_ret, Option.some.injEq] at h1
    subst h1
    obtain ⟨_, h5⟩ := vrep_lit.1 (opd_sound h hB hg h2)
    obtain ⟨h6, h7⟩ := evUn_sound (P := E.P) (w := w) h4
    exact OpRes.ofVal h (s := Op.unary op (a.eval x)) (by simp [execOp, hop]) (same_val (by rw [h5]; exact h6) (vrep_lit.2 ⟨h7, rfl⟩) hs)
  | convert src dst x =>
    rw [hop] at he
    obtain ⟨v, bw, h1, rfl⟩ := valW_ev he
    simp only [ev_bind] at h1
    replace h1 := bind_some h1; obtain ⟨u1, h2, h1⟩ := h1
    exact OpRes.ofVal h (s := convert src dst (a.eval x)) (by simp [execOp, hop]) (convertM_sound hs h1 (opd_sound h hB hg h2).nlV)
  | makeInterface t x =>
    rw [hop] at he
    obtain ⟨v, h1, rfl⟩ := val_ev he
    simp only [ev_bind] at h1
    replace h1 := bind_some h1; obtain ⟨u1, h2, h1⟩ := h1
    have h3 := opd_sound h hB hg h2
    split at h1
    · simp at h1
    · rename_i d g cs hn hd
      simp only [ev_ret, Option.some.injEq] at h1
      subst h1
      refine OpRes.ofVal h (s := Instr.makeInterface t (a.eval x)) (by simp [execOp, hop]) (same_val (u := .iface t (a.eval x)) ?_ ?_ hs)
      · simp only [Instr.makeInterface, Sem.run_bind, run_under hd, Result.andThen_ok]
        cases d <;> first | exact absurd rfl (hn _) | simp
      · rw [vrep_one]
        simp only [AVRep]
        cases g with
        | true =>
          obtain ⟨C, h4, h5⟩ := h3
          exact ⟨C.toList, h5, by rw [h4]⟩
        | false => exact ⟨[a.eval x], h3, _, rfl, rfl⟩
    · simp at h1
  | makeFunc fn first cap =>
    rw [hop] at he
    obtain ⟨v, h1, rfl⟩ := val_ev he
    simp only [ev_bind] at h1
    replace h1 := bind_some h1; obtain ⟨f1, h2, h1⟩ := h1
    replace h1 := bind_some h1; obtain ⟨f2, h3, h1⟩ := h1
    replace h1 := bind_some h1; obtain ⟨c1, h4, h1⟩ := h1
    replace h1 := bind_some h1; obtain ⟨c2, h5, h1⟩ := h1
    simp only [ev_ret, Option.some.injEq] at h1
    subst h1
    obtain ⟨l1, r1⟩ := opds_sound h hB hg h2
    obtain ⟨l2, r2⟩ := opds_sound h hB hg h4
    refine OpRes.ofVal h (s := Instr.makeFunc fn (first.map a.eval) (cap.map a.eval)) (by simp [execOp, hop]) (same_val (u := .func fn (first.map a.eval) (cap.map a.eval)) (by simp [Instr.makeFunc]) ?_ hs)
    rw [vrep_one]
    simp only [AVRep]
    refine ⟨_, _, rfl, allOnes_ev h3 _ (by simp [l1]) fun i v u hv hu => ?_, allOnes_ev h5 _ (by simp [l2]) fun i v u hv hu => ?_⟩
    · rw [Array.toList_map, List.getElem?_map] at hu
      cases hx : first.toList[i]? with
      | none => rw [hx] at hu; simp at hu
      | some x =>
        rw [hx] at hu
        simp only [Option.map_some, Option.some.injEq] at hu
        subst hu
        exact r1 i x v hx hv
    · rw [Array.toList_map, List.getElem?_map] at hu
      cases hx : cap.toList[i]? with
      | none => rw [hx] at hu; simp at hu
      | some x =>
        rw [hx] at hu
        simp only [Option.map_some, Option.some.injEq] at hu
        subst hu
        exact r2 i x v hx hv
  | makeMap t r =>
    rw [hop] at he
    cases r with
    | some _ => simp at he
    | none =>
      simp only [ev_bind] at he
      replace he := bind_some he; obtain ⟨_, h1, he⟩ := he
      simp only [ev_ret, Option.some.injEq] at he
      subst he
      have h1 := freeId_ev h1
      obtain ⟨e1, s1⟩ := hs.alloc h1 (x := .map []) rfl (.map #[] 0) fun ext => ⟨#[], 0, by simp only [ctx]; rw [upd_same]; exact heap_alloc_new _ _, MapKept.stamped_empty 0, rfl⟩
      refine OpRes.ofVal h (s := Instr.makeMap t none) (by simp [execOp, hop]) ⟨.map (some w.heap.size), _, _, ?_, e1, s1, ?_⟩
      · simp [Instr.makeMap]
      · rw [vrep_one]
        simp only [AVRep]
        exact ⟨_, upd_same _ _ _, rfl, fun es _ => by simp only [ctx]; rw [upd_same]⟩
  | makeSlice t l c =>
    rw [hop] at he
    obtain ⟨v, bw, h1, rfl⟩ := valW_ev he
    simp only [ev_bind] at h1
    replace h1 := bind_some h1; obtain ⟨u1, h2, h1⟩ := h1
    replace h1 := bind_some h1; obtain ⟨⟨k1, n1⟩, h3, h1⟩ := h1
    replace h1 := bind_some h1; obtain ⟨u2, h4, h1⟩ := h1
    replace h1 := bind_some h1; obtain ⟨⟨k2, n2⟩, h5, h1⟩ := h1
    obtain rfl := asI_ev h3
    obtain rfl := asI_ev h5
    obtain ⟨_, h6⟩ := vrep_lit.1 (opd_sound h hB hg h2)
    obtain ⟨_, h7⟩ := vrep_lit.1 (opd_sound h hB hg h4)
    exact OpRes.ofVal h (s := Instr.makeSlice t (a.eval l) (a.eval c)) (by simp [execOp, hop]) (by rw [h6, h7]; exact makeSliceM_sound hs h1)
  | slice t x lo hi mx =>
    rw [hop] at he
    obtain ⟨v, bw, h1, rfl⟩ := valW_ev he
    simp only [ev_bind] at h1
    replace h1 := bind_some h1; obtain ⟨u1, h2, h1⟩ := h1
    replace h1 := bind_some h1; obtain ⟨l, h3, h1⟩ := h1
    replace h1 := bind_some h1; obtain ⟨hh, h4, h1⟩ := h1
    replace h1 := bind_some h1; obtain ⟨m, h5, h1⟩ := h1
    obtain ⟨u, r1, r2, r3, r4⟩ := sliceM_sound hs (optI_sound h hB hg h3) (optI_sound h hB hg h4) (optI_sound h hB hg h5) h1 (opd_sound h hB hg h2).nlV
    exact OpRes.ofVal h (s := Instr.sliceAt t (a.eval x) (lo.map a.eval) (hi.map a.eval) (mx.map a.eval)) (by simp [execOp, hop]) ⟨u, w, ι, r1, r2, r3, r4⟩
  | fieldAddr s x f =>
    rw [hop] at he
    obtain ⟨v, h1, rfl⟩ := val_ev he
    simp only [ev_bind] at h1
    replace h1 := bind_some h1; obtain ⟨u1, h2, h1⟩ := h1
    replace h1 := bind_some h1; obtain ⟨c, h3, h1⟩ := h1
    obtain rfl := asOne_ev h3
    replace h1 := bind_some h1; obtain ⟨r, h4, h1⟩ := h1
    simp only [ev_ret, Option.some.injEq] at h1
    subst h1
    have h5 := opd_sound h hB hg h2
    rw [vrep_one] at h5
    obtain ⟨u, h6, h7⟩ := fieldAddrM_sound h4 h5
    exact OpRes.ofVal h (s := Instr.fieldAt s (a.eval x) f) (by simp [execOp, hop]) (same_val h6 (vrep_one.2 h7) hs)
  | field t x f =>
    rw [hop] at he
    obtain ⟨v, h1, rfl⟩ := val_ev he
    simp only [ev_bind] at h1
    replace h1 := bind_some h1; obtain ⟨u1, h2, h1⟩ := h1
    obtain ⟨u, h6, h7⟩ := fieldM_sound (w := w) h1 (opd_sound h hB hg h2)
    exact OpRes.ofVal h (s := Instr.field t (a.eval x) f) (by simp [execOp, hop]) (same_val h6 h7 hs)
  | indexAddr t x i =>
    rw [hop] at he
    obtain ⟨v, h1, rfl⟩ := val_ev he
    simp only [ev_bind] at h1
    replace h1 := bind_some h1; obtain ⟨u1, h2, h1⟩ := h1
    replace h1 := bind_some h1; obtain ⟨c, h3, h1⟩ := h1
    obtain rfl := asOne_ev h3
    replace h1 := bind_some h1; obtain ⟨u2, h4, h1⟩ := h1
    replace h1 := bind_some h1; obtain ⟨⟨k, n⟩, h5, h1⟩ := h1
    obtain rfl := asI_ev h5
    replace h1 := bind_some h1; obtain ⟨r, h6, h1⟩ := h1
    simp only [ev_ret, Option.some.injEq] at h1
    subst h1
    have h7 := opd_sound h hB hg h2
    rw [vrep_one] at h7
    obtain ⟨_, h8⟩ := vrep_lit.1 (opd_sound h hB hg h4)
    obtain ⟨u, h9, h10⟩ := indexAddrM_sound (k := k) hs h6 h7.unNl
    exact OpRes.ofVal h (s := Instr.indexAt t (a.eval x) (a.eval i)) (by simp [execOp, hop]) (same_val (by rw [h8]; exact h9) (vrep_one.2 h10) hs)
  | index t x i =>
    rw [hop] at he
    obtain ⟨v, h1, rfl⟩ := val_ev he
    simp only [ev_bind] at h1
    replace h1 := bind_some h1; obtain ⟨u1, h2, h1⟩ := h1
    replace h1 := bind_some h1; obtain ⟨u2, h4, h1⟩ := h1
    replace h1 := bind_some h1; obtain ⟨⟨k, n⟩, h5, h1⟩ := h1
    obtain rfl := asI_ev h5
    obtain ⟨_, h8⟩ := vrep_lit.1 (opd_sound h hB hg h4)
    obtain ⟨u, h9, h10⟩ := indexM_sound (w := w) (k := k) h1 (opd_sound h hB hg h2)
    exact OpRes.ofVal h (s := Instr.index t (a.eval x) (a.eval i)) (by simp [execOp, hop]) (same_val (by rw [h8]; exact h9) h10 hs)
  | extract x k =>
    rw [hop] at he
    obtain ⟨v, h1, rfl⟩ := val_ev he
    simp only [ev_bind] at h1
    replace h1 := bind_some h1; obtain ⟨u1, h2, h1⟩ := h1
    have h3 := opd_sound h hB hg h2
    split at h1
    · split at h1
      · rename_i vs g cs hk
        simp only [ev_ret, Option.some.injEq] at h1
        subst h1
        obtain ⟨C, h4, h5⟩ := h3
        have : ∀ (vs : List (Bool × List AV)) (us : List Value) (k : Nat) (g : Bool) (cs : List AV), VRepT (ctx B st.bk w ι) vs us → vs[k]? = some (g, cs) → ∃ u, us[k]? = some u ∧ VRepC (ctx B st.bk w ι) g cs u := by
          intro vs
          induction vs with
          | nil => intro us k g cs _ hk; simp at hk
          | cons x r ih =>
            intro us k g cs hr hk
            obtain ⟨g', cs'⟩ := x
            obtain ⟨u, us', rfl, h6, h7⟩ := hr
            cases k with
            | zero => simp at hk; obtain ⟨rfl, rfl⟩ := hk; exact ⟨u, rfl, h6⟩
            | succ k => simpa using ih us' k g cs h7 (by simpa using hk)
        obtain ⟨u, h6, h7⟩ := this _ _ _ _ _ h5 hk
        rw [Array.getElem?_toList] at h6
        exact OpRes.ofVal h (s := Instr.extract (a.eval x) k) (by simp [execOp, hop]) (same_val (by rw [h4]; simp [Instr.extract, h6]) h7 hs)
      · simp at h1
    · simp at h1
  | lookup t x i ok =>
    rw [hop] at he
    obtain ⟨v, h1, rfl⟩ := val_ev he
    simp only [ev_bind] at h1
    replace h1 := bind_some h1; obtain ⟨u1, h2, h1⟩ := h1
    replace h1 := bind_some h1; obtain ⟨c, h3, h1⟩ := h1
    obtain rfl := asOne_ev h3
    replace h1 := bind_some h1; obtain ⟨u2, h4, h1⟩ := h1
    replace h1 := bind_some h1; obtain ⟨k, h5, h1⟩ := h1
    obtain rfl := asLit_ev h5
    have h7 := opd_sound h hB hg h2
    rw [vrep_one] at h7
    obtain ⟨_, h8⟩ := vrep_lit.1 (opd_sound h hB hg h4)
    obtain ⟨u, h9, h10⟩ := lookupM_sound hs h1 h7
    exact OpRes.ofVal h (s := Instr.lookup t (a.eval x) (a.eval i) ok) (by simp [execOp, hop]) (same_val (by rw [h8]; exact h9) h10 hs)
  | mapUpdate t m k x =>
    rw [hop] at he
    simp only [ev_bind] at he
    replace he := bind_some he; obtain ⟨u1, h2, he⟩ := he
    replace he := bind_some he; obtain ⟨c, h3, he⟩ := he
    obtain rfl := asOne_ev h3
    replace he := bind_some he; obtain ⟨u2, h4, he⟩ := he
    replace he := bind_some he; obtain ⟨k', h5, he⟩ := he
    obtain rfl := asLit_ev h5
    replace he := bind_some he; obtain ⟨u3, h6, he⟩ := he
    have h7 := opd_sound h hB hg h2
    rw [vrep_one] at h7
    obtain ⟨_, h8⟩ := vrep_lit.1 (opd_sound h hB hg h4)
    have h9 := opd_sound h hB hg h6
    split at he
    · simp only [ev_bind] at he
      replace he := bind_some he; obtain ⟨bw, h10, he⟩ := he
      simp only [ev_ret, Option.some.injEq] at he
      subst he
      obtain ⟨w', h11, h12, h13⟩ := mapUpdM_sound hs h10 h7 h9
      exact OpRes.ofSkip h (s := Instr.mapUpdate t (a.eval m) (a.eval k) (a.eval x)) (by simp [execOp, hop]) ⟨w', ι, by rw [h8]; exact h11, h12, h13⟩
    · simp at he
  | typeAssert x xt t ok =>
    rw [hop] at he
    obtain ⟨v, h1, rfl⟩ := val_ev he
    simp only [ev_bind] at h1
    replace h1 := bind_some h1; obtain ⟨u1, h2, h1⟩ := h1
    replace h1 := bind_some h1; obtain ⟨c, h3, h1⟩ := h1
    obtain rfl := asOne_ev h3
    have h4 := opd_sound h hB hg h2
    rw [vrep_one] at h4
    have h4 := unIfc_rep h4
    generalize unIfc c = c' at h1 h4
    have hfin : ∀ (g' : Bool) (cs : List AV) (u : Value) (b : Bool), VRepC (ctx B st.bk w ι) g' cs u → VRep (ctx B st.bk w ι) (.tup [(g', cs), (false, [.p (.lit (.bool b))])]) (.tuple #[u, .bool b]) := by
      intro g' cs u b h
      exact ⟨#[u, .bool b], rfl, u, _, rfl, h, .bool b, [], rfl, by rw [show VRepC (ctx B st.bk w ι) false [.p (.lit (.bool b))] (.bool b) = VRep (ctx B st.bk w ι) (litV (.bool b)) (.bool b) from rfl, vrep_lit]; exact ⟨rfl, rfl⟩, rfl⟩
    split at h1
    · simp at h1
    · rename_i d hn hd
      split at h1
      · rename_i g' z hz
        simp only [ev_ret, Option.some.injEq] at h1
        subst h1
        obtain ⟨_, h7⟩ := avrep_lit.1 h4
        obtain ⟨i, zv, h9, h10, h11⟩ := zeroV_spec hz
        have hta : (Instr.typeAssert (a.eval x) xt t true).run E.P w = .ok (.tuple #[zv, .bool false]) w := by
          rw [h7]
          simp only [Instr.typeAssert, Sem.run_bind, run_under hd, Result.andThen_ok]
          simp [run_zeroValue h9 h10]
        refine OpRes.ofVal h (s := Instr.typeAssert (a.eval x) xt t true) (by simp [execOp, hop]) (same_val (u := .tuple #[zv, .bool false]) hta (hfin _ _ _ _ (h11 _)) hs)
      · simp at h1
    · rename_i d t' g cs hn hd
      simp only [AVRep] at h4
      obtain ⟨C, h5, h6⟩ := h4
      have hu : ∃ u, a.eval x = .iface t' u ∧ VRepC (ctx B st.bk w ι) g cs u := by
        cases g with
        | true => exact ⟨_, h6, C.toArray, rfl, by simpa using h5⟩
        | false => obtain ⟨u, rfl, h6⟩ := h6; exact ⟨u, h6, h5⟩
      obtain ⟨u, h7, h8⟩ := hu
      have hta : (Instr.typeAssert (a.eval x) xt t ok).run E.P w = (if t' = t then (pure (if ok then .tuple #[u, .bool true] else u) : Sem Value) else
          (if ok then do pure (.tuple #[← zeroValue t, .bool false]) else runtimePanic (.typeAssertion (some xt) (some t') t ""))).run E.P w := by
        rw [h7]
        simp only [Instr.typeAssert, Sem.run_bind, run_under hd, Result.andThen_ok]
      split at h1
      · rename_i htt
        have htt := beqN htt
        simp only [ev_ret, Option.some.injEq] at h1
        subst h1
        rw [if_pos htt] at hta
        refine OpRes.ofVal h (s := Instr.typeAssert (a.eval x) xt t ok) (by simp [execOp, hop]) (same_val (u := if ok then .tuple #[u, .bool true] else u) (by rw [hta]; rfl) ?_ hs)
        cases ok with
        | true => exact hfin g cs u true h8
        | false => exact h8
      · rename_i htt
        split at h1
        · rename_i g' z hz
          simp only [ev_ret, Option.some.injEq] at h1
          subst h1
          have hne : ¬ t' = t := fun he => by rw [he, Nat.beq_refl] at htt; simp at htt
          rw [if_neg hne, if_pos rfl] at hta
          obtain ⟨i, zv, h9, h10, h11⟩ := zeroV_spec hz
          refine OpRes.ofVal h (s := Instr.typeAssert (a.eval x) xt t true) (by simp [execOp, hop]) (same_val (u := .tuple #[zv, .bool false]) (by rw [hta]; simp [run_zeroValue h9 h10]) (hfin _ _ _ _ (h11 _)) hs)
        · simp at h1
    · simp at h1
  | panic x =>
    rw [hop] at he
    simp only [ev_bind] at he
    replace he := bind_some he; obtain ⟨u1, h2, he⟩ := he
    replace he := bind_some he; obtain ⟨c, h3, he⟩ := he
    obtain rfl := asOne_ev h3
    have h4 := opd_sound h hB hg h2
    rw [vrep_one] at h4
    have h4 := unIfc_rep h4
    generalize unIfc c = c' at he h4
    split at he
    · simp only [ev_ret, Option.some.injEq] at he
      subst he
      obtain ⟨u, h5⟩ := avrep_ifc h4
      refine ⟨a.eval x, w, ι, ?_, Ext.refl _, hs, h4⟩
      simp [execOp, hop, h5, Instr.panic, goPanic]
    · simp at he
  | call c =>
    rw [hop] at he
    simp only at he
    cases hc : c.callee with
    | value f => simp [isCall, hop, hc] at hno
    | invoke f n => rw [hc] at he; simp at he
    | builtin b =>
      rw [hc] at he
      simp only at he
      have hex : ∃ cs, execOp a.eval o = builtin b c.argTypes o.type cs (c.args.map a.eval) := by
        refine ⟨c.args.map fun | .const _ => true | _ => false, ?_⟩
        simp only [execOp, hop, resolve, hc, invoke, pure_bind]
        rfl
      obtain ⟨consts, hex⟩ := hex
      split at he
      · rename_i x t hargs htypes
        obtain ⟨v, h1, rfl⟩ := val_ev he
        simp only [ev_bind] at h1
        replace h1 := bind_some h1; obtain ⟨u1, h2, h1⟩ := h1
        obtain ⟨u, h3, h4⟩ := lenM_sound (ty := o.type) hs h1 (opd_sound h hB hg h2).nlV
        have e1 : c.argTypes = #[t] := by rw [← Array.toList_inj, htypes]
        have e2 : c.args.map a.eval = #[a.eval x] := by rw [← Array.toList_inj, Array.toList_map, hargs]; rfl
        exact OpRes.ofVal h (s := Builtin.len_ #[t] o.type #[a.eval x]) (by rw [hex, e1, e2]; rfl) (same_val h3 h4 hs)
      · rename_i x t hargs htypes
        obtain ⟨v, h1, rfl⟩ := val_ev he
        simp only [ev_bind] at h1
        replace h1 := bind_some h1; obtain ⟨u1, h2, h1⟩ := h1
        obtain ⟨u, h3, h4⟩ := capM_sound (w := w) (ty := o.type) h1 (opd_sound h hB hg h2).nlV
        have e1 : c.argTypes = #[t] := by rw [← Array.toList_inj, htypes]
        have e2 : c.args.map a.eval = #[a.eval x] := by rw [← Array.toList_inj, Array.toList_map, hargs]; rfl
        exact OpRes.ofVal h (s := Builtin.cap_ #[t] o.type #[a.eval x]) (by rw [hex, e1, e2]; rfl) (same_val h3 h4 hs)
      · rename_i x y t t' hargs htypes
        simp only [ev_bind] at he
        replace he := bind_some he; obtain ⟨_, h0, he⟩ := he
        have h0 := chk_some h0
        obtain ⟨v, bw, h1, rfl⟩ := valW_ev he
        simp only [ev_bind] at h1
        replace h1 := bind_some h1; obtain ⟨u1, h2, h1⟩ := h1
        replace h1 := bind_some h1; obtain ⟨u2, h3, h1⟩ := h1
        have e1 : c.argTypes = #[t, t'] := by rw [← Array.toList_inj, htypes]
        have e2 : c.args.map a.eval = #[a.eval x, a.eval y] := by rw [← Array.toList_inj, Array.toList_map, hargs]; rfl
        have hdx : ∃ dx, E.P.underlying t' = some dx ∧ isIntD dx = false := by
          cases hd : E.P.underlying t' with
          | none => rw [hd] at h0; simp at h0
          | some dx =>
            refine ⟨dx, rfl, ?_⟩
            rw [hd] at h0
            cases dx <;> first | rfl | simp at h0
        obtain ⟨dx, hd1, hd2⟩ := hdx
        exact OpRes.ofVal h (s := Builtin.append_ #[t, t'] o.type #[a.eval x, a.eval y]) (by rw [hex, e1, e2]; rfl) (appendM_sound hs hd1 hd2 h1 (opd_sound h hB hg h2).nlV (opd_sound h hB hg h3).nlV)
      · obtain ⟨v, h1, rfl⟩ := val_ev he
        simp only [ev_bind] at h1
        replace h1 := bind_some h1; obtain ⟨us, h2, h1⟩ := h1
        obtain ⟨l1, r1⟩ := opds_sound h hB hg h2
        obtain ⟨u, h3, h4⟩ := minM_sound (P := E.P) (w := w) (ts := c.argTypes) (ty := o.type) (us := c.args.toList.map a.eval) h1 (by simp [l1]) (fun i v u hv hu => by
          rw [List.getElem?_map] at hu
          cases hx : c.args.toList[i]? with
          | none => rw [hx] at hu; simp at hu
          | some x =>
            rw [hx] at hu
            simp only [Option.map_some, Option.some.injEq] at hu
            subst hu
            exact r1 i x v hx hv)
        have e2 : c.args.map a.eval = (c.args.toList.map a.eval).toArray := by rw [← Array.toList_inj, Array.toList_map]
        exact OpRes.ofVal h (s := Builtin.min_ c.argTypes o.type (c.args.toList.map a.eval).toArray) (by rw [hex, e2]; rfl) (same_val h3 h4 hs)
      · obtain ⟨v, h1, rfl⟩ := val_ev he
        simp only [ev_bind] at h1
        replace h1 := bind_some h1; obtain ⟨us, h2, h1⟩ := h1
        obtain ⟨l1, r1⟩ := opds_sound h hB hg h2
        obtain ⟨u, h3, h4⟩ := maxM_sound (P := E.P) (w := w) (ts := c.argTypes) (ty := o.type) (us := c.args.toList.map a.eval) h1 (by simp [l1]) (fun i v u hv hu => by
          rw [List.getElem?_map] at hu
          cases hx : c.args.toList[i]? with
          | none => rw [hx] at hu; simp at hu
          | some x =>
            rw [hx] at hu
            simp only [Option.map_some, Option.some.injEq] at hu
            subst hu
            exact r1 i x v hx hv)
        have e2 : c.args.map a.eval = (c.args.toList.map a.eval).toArray := by rw [← Array.toList_inj, Array.toList_map]
        exact OpRes.ofVal h (s := Builtin.max_ c.argTypes o.type (c.args.toList.map a.eval).toArray) (by rw [hex, e2]; rfl) (same_val h3 h4 hs)
      · simp at he
  | _ => rw [hop] at he; simp at he

end Go.Proofs.YtggofahhehkbbaaGreatDoor.Ev
