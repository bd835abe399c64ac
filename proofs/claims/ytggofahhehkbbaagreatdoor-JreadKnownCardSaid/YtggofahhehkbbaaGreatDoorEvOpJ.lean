/- Conversions, makes: sound. -/
import Derived.Test.YtggofahhehkbbaaGreatDoorEvOpI
namespace Go.Proofs.YtggofahhehkbbaaGreatDoor.Ev
set_option autoImplicit false
set_option linter.unusedVariables false
set_option linter.unusedSimpArgs false

theorem isU8_spec {e : List PV} (h : isU8 e = true) : ∃ n : Nat, n ≤ 255 ∧ e = [.lit (.int .u8 (n : Int))] ∧ (cellU8 e).toNat = n := by
  unfold isU8 at h
  split at h
  · rename_i n
    simp only [Bool.and_eq_true, decide_eq_true_eq] at h
    refine ⟨n.toNat, by omega, by rw [Int.toNat_of_nonneg h.1], ?_⟩
    simp only [cellU8, UInt8.toNat_ofNat']
    exact Nat.mod_eq_of_lt (by omega)
  · simp at h

theorem bytes_string {P : Program} {B : Base} {st : St} {w : World} {ι : Nat → Nat} (hs : SimB B st.bk w ι) {src dst e : TypeId} (h1 : P.underlying src = some (.slice e)) (h2 : P.underlying e = some (.int .u8)) (h3 : P.underlying dst = some .string)
    {a : AV} {es : List (List PV)} {v : Value} (he : (elemsM [] a).ev st = some es) (hu : es.all isU8 = true) (hv : AVRep (ctx B st.bk w ι) a v) : (convert src dst v).run P w = .ok (.string (mkS (es.map cellU8))) w := by
  obtain ⟨ad, cap, rfl, hcap, h⟩ := elemsM_sound [] hs he hv
  rcases h with rfl | ⟨b, o, sz, rfl, h4, h5⟩
  · rw [run_convert_bytes_string w src dst e _ _ _ h1 h2 h3]
    cases ad with
    | none => simp [Conv.bytesToString]; rfl
    | some a => simp [Conv.bytesToString, loadCells, loadCellsFrom]; rfl
  · have := run_convert_bytes_back (P := P) w src dst e ⟨b, o, none⟩ cap (es.map cellU8) h1 h2 h3 fun j hj => by
      simp only [List.length_map] at hj
      have hm := List.getElem_mem hj
      obtain ⟨n, hn, hen, hc⟩ := isU8_spec (List.all_eq_true.1 hu _ hm)
      have hsz : sz = 1 := by rw [← h4 _ hm, hen]; rfl
      obtain ⟨u, h6, h7⟩ := h5 j _ 0 _ (List.getElem?_eq_getElem hj) (by rw [hen]; rfl)
      cases h7
      rw [add_mk, List.getElem_map, hc, ← h6, hsz]
      simp
    rw [List.length_map] at this
    exact this

theorem bytesRow_size (s : ByteArray) {cap : Nat} (h : s.size ≤ cap) : (bytesRow s cap).size = cap := by
  simp only [bytesRow, Array.size_append, Array.size_map, Array.size_replicate]
  show s.size + _ = _
  omega

theorem convertM_sound {P : Program} {B : Base} {st : St} {w : World} {ι : Nat → Nat} (hs : SimB B st.bk w ι) {base : Nat} {src dst : TypeId} {x r : AVal} {bw : BW} {v : Value}
    (he : (convertM P base src dst x).ev st = some (r, bw)) (hv : VRep (ctx B st.bk w ι) x v) :
    ∃ u w' ι', (convert src dst v).run P w = .ok u w' ∧ Ext (ctx B st.bk w ι) (ctx B (st.setBs bw).bk w' ι') ∧ SimB B (st.setBs bw).bk w' ι' ∧ VRep (ctx B (st.setBs bw).bk w' ι') r u := by
  unfold convertM at he
  cases hsd : P.underlying src with
  | none => rw [hsd] at he; simp at he
  | some s =>
  cases hdd : P.underlying dst with
  | none => rw [hsd, hdd] at he; simp at he
  | some d =>
  rw [hsd, hdd] at he
  simp only at he
  split at he
  case h_1 k k' n =>
    rw [show (AVal.v false [.p (.lit (.int k' n))]) = litV (.int k' n) from rfl, vrep_lit] at hv
    obtain ⟨_, rfl⟩ := hv
    simp only [ev_ret, Option.some.injEq, Prod.mk.injEq] at he
    obtain ⟨rfl, rfl⟩ := he
    refine ⟨.int k (k.wrap n), w, ι, ?_, Ext.refl _, hs, by rw [vrep_lit]; exact ⟨rfl, rfl⟩⟩
    simp [convert, run_under hsd, run_under hdd, Conv.intToInt]
  case h_2 b =>
    rw [show (AVal.v false [.p (.lit (.string b))]) = litV (.string b) from rfl, vrep_lit] at hv
    obtain ⟨_, rfl⟩ := hv
    simp only [ev_ret, Option.some.injEq, Prod.mk.injEq] at he
    obtain ⟨rfl, rfl⟩ := he
    refine ⟨.string b, w, ι, ?_, Ext.refl _, hs, by rw [vrep_lit]; exact ⟨rfl, rfl⟩⟩
    simp [convert, run_under hsd, run_under hdd]
  case h_3 e b =>
    rw [show (AVal.v false [.p (.lit (.string b))]) = litV (.string b) from rfl, vrep_lit] at hv
    obtain ⟨_, rfl⟩ := hv
    split at he
    case h_2 => simp at he
    case h_1 hu =>
      simp only [ev_bind] at he
      obtain ⟨_, hf, he⟩ := bind_some he
      have hf := freeId_ev hf
      obtain ⟨_, hb, he⟩ := bind_some he
      have hb := of_decide_eq_true (chk_some hb)
      simp only [ev_ret, Option.some.injEq, Prod.mk.injEq] at he
      obtain ⟨rfl, rfl⟩ := he
      rw [lst_size] at hb
      have hge := grownCap_ge w b.size 0 e
      have hle := grownCap_le_maxLen w b.size 0 e (by simp only [maxLen]; omega)
      have hrun := run_bytes_of_string (P := P) w src dst e b hsd hdd hu
      obtain ⟨ext0, hs0⟩ := hs.drew
      have hsz := bytesRow_size b hge
      obtain ⟨ext1, hs1, hav⟩ := hs0.newArr (id := base) hf (es := (lst b).map u8Cell) (C := bytesRow b (grownCap w b.size 0 e)) (e := e) (f := ((bytesRow b (grownCap w b.size 0 e)).size, (bytesRow b (grownCap w b.size 0 e)).size + 1)) (sz := 1) (cap := grownCap w b.size 0 e) (Nat.succ_pos 0)
        (fun o ho h => by omega) (by rw [hsz]; simp) (by rw [List.length_map, lst_size]; exact hge) (by simp only [maxLen] at hle; omega)
        (fun x hx => by obtain ⟨y, _, rfl⟩ := List.mem_map.1 hx; rfl)
        (fun i e' j q hi hj => by
          obtain ⟨u, h1, h2⟩ := string_tells (w := w.drew) (N := nav B st.bk w.drew ι) b i e' j q hi hj
          refine ⟨u, ?_, h2⟩
          have hlt := (List.getElem?_eq_some_iff.1 h1).1
          have : (bytesRow b (grownCap w b.size 0 e)).toList = ((lst b).map fun b => Value.int .u8 b.toNat) ++ List.replicate (grownCap w b.size 0 e - b.size) (.int .u8 0) := by
            simp [bytesRow, lst]
          rw [this, List.getElem?_append_left hlt]
          exact h1)
      refine ⟨_, _, _, hrun, ext0.trans ext1 (Nat.le_refl _), hs1, ?_⟩
      rw [vrep_one]
      rw [List.length_map, lst_size] at hav
      exact hav
  case h_4 hx =>
    rw [vrep_one] at hv
    split at he
    case h_2 => simp at he
    case h_1 e =>
      split at he
      case h_2 => simp at he
      case h_1 hu =>
        simp only [ev_bind] at he
        obtain ⟨es, hes, he⟩ := bind_some he
        obtain ⟨_, hc, he⟩ := bind_some he
        simp only [ev_ret, Option.some.injEq, Prod.mk.injEq] at he
        obtain ⟨rfl, rfl⟩ := he
        exact ⟨_, w, ι, bytes_string hs hsd hu hdd hes (chk_some hc) hv, Ext.refl _, hs, by rw [vrep_lit]; exact ⟨rfl, rfl⟩⟩
  case h_5 => simp at he

theorem makeSliceM_sound {P : Program} {B : Base} {st : St} {w : World} {ι : Nat → Nat} (hs : SimB B st.bk w ι) {base : Nat} {t : TypeId} {kl kc : IntKind} {l c : Int} {r : AVal} {bw : BW} (he : (makeSliceM P base t l c).ev st = some (r, bw)) :
    ∃ u w' ι', (Instr.makeSlice t (.int kl l) (.int kc c)).run P w = .ok u w' ∧ Ext (ctx B st.bk w ι) (ctx B (st.setBs bw).bk w' ι') ∧ SimB B (st.setBs bw).bk w' ι' ∧ VRep (ctx B (st.setBs bw).bk w' ι') r u := by
  unfold makeSliceM at he
  cases hd : P.underlying t with
  | none => rw [hd] at he; simp at he
  | some d =>
  rw [hd] at he
  cases d with
  | slice e =>
    simp only at he
    split at he
    case h_2 => simp at he
    case h_1 sz by_ z hsz hby hz =>
      simp only [ev_bind] at he
      obtain ⟨_, hc, he⟩ := bind_some he
      have hc := chk_some hc
      obtain ⟨_, hf, he⟩ := bind_some he
      have hf := freeId_ev hf
      simp only [ev_ret, Option.some.injEq, Prod.mk.injEq] at he
      obtain ⟨rfl, rfl⟩ := he
      simp only [Bool.and_eq_true, decide_eq_true_eq] at hc
      obtain ⟨⟨⟨h0, hlc⟩, hroom⟩, hzl⟩ := hc
      have hzl := beqN hzl
      obtain ⟨i, hi, hisz, hiby⟩ := info_of hsz hby
      obtain ⟨i', zv, hi', hiz, hzr⟩ := zeroE_spec hz
      rw [hi] at hi'
      simp only [Option.some.injEq] at hi'
      subst hi'
      have hle : c.toNat ≤ room := by
        have : c.toNat * 1 ≤ c.toNat * (by_ + 1) := Nat.mul_le_mul_left _ (Nat.succ_le_succ (Nat.zero_le _))
        rw [Nat.mul_one] at this
        exact Nat.le_trans this hroom
      have hbytes : (i.bytes : Int) * c ≤ 281474976710656 := by
        rw [hiby, Nat.succ_eq_add_one]
        have h1 : ((c.toNat * (by_ + 1) : Nat) : Int) ≤ (room : Int) := Int.ofNat_le.2 hroom
        rw [Int.natCast_mul, Int.toNat_of_nonneg (by omega), Int.mul_comm] at h1
        unfold room at h1
        omega
      have hrun := run_make (P := P) w t e i zv hd hi hiz kl kc l c h0 hlc hbytes (by unfold room at hle; omega)
      have hzs : zv.cells.size = sz + 1 := by
        have := (hzr w (nav B st.bk w ι)).length
        rw [hzl] at this
        simpa using this
      obtain ⟨ext1, hs1, hav⟩ := hs.newArr (id := base) hf (es := List.replicate l.toNat z) (C := madeCells zv.cells (c.toNat * i.size)) (e := e) (f := (0, 0)) (sz := sz + 1) (cap := c.toNat) (Nat.succ_pos _)
        (okFz0 _) (by rw [size_madeCells, hisz]) (by rw [List.length_replicate]; omega) (by unfold room at hle; omega)
        (fun x hx => by rw [List.eq_of_mem_replicate hx]; exact hzl)
        (fun a e' j q hi' hj => by
          obtain ⟨u, h1, h2⟩ := tells_zero (w := w) (N := nav B st.bk w ι) (n := c.toNat) (Nat.succ_pos sz) hzl hzs (hzr w (nav B st.bk w ι)) a e' j q (by
            rw [List.getElem?_replicate] at hi' ⊢
            split at hi'
            · rw [if_pos (by omega)]; exact hi'
            · simp at hi') hj
          exact ⟨u, by rw [hisz]; exact h1, h2⟩)
      refine ⟨_, _, _, hrun, ext1, hs1, ?_⟩
      rw [vrep_one]
      rw [List.length_replicate] at hav
      exact hav
  | _ => simp at he

theorem capM_sound {P : Program} {c : RepCtx} {st : St} {w : World} {t ty : TypeId} {x r : AVal} {v : Value} (he : (capM P t x).ev st = some r) (hv : VRep c x v) :
    ∃ u, (Builtin.cap_ #[t] ty #[v]).run P w = .ok u w ∧ VRep c r u := by
  unfold capM at he
  cases hd : P.underlying t with
  | none => rw [hd] at he; simp at he
  | some d =>
  rw [hd] at he
  cases d with
  | array n e =>
    simp only [ev_ret, Option.some.injEq] at he
    subst he
    refine ⟨goInt n, ?_, by rw [vrep_lit]; exact ⟨rfl, rfl⟩⟩
    simp [Builtin.cap_, run_under hd]
  | slice e =>
    simp only at he
    split at he
    · simp only [ev_ret, Option.some.injEq] at he
      subst he
      rw [vrep_one] at hv
      simp only [AVRep] at hv
      obtain ⟨_, a, rfl⟩ := hv
      refine ⟨goInt _, ?_, by rw [vrep_lit]; exact ⟨rfl, rfl⟩⟩
      simp [Builtin.cap_, run_under hd]
    · simp at he
  | _ => simp at he

end Go.Proofs.YtggofahhehkbbaaGreatDoor.Ev
