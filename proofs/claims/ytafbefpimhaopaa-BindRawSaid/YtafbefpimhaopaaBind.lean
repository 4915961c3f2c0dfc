/- For every book, every list of table numbers and every term, the law BindRaw returns true, and each argument reads behind the call as it read before. No condition. -/
import Derived.Test.YtafbefpimhaopaaOpen
import Derived.Test.YtafbefpimhaopaaRows
set_option linter.unusedVariables false
set_option linter.unusedSimpArgs false
set_option linter.unnecessarySimpa false
set_option linter.unusedSectionVars false
namespace Go.Proofs.Ytafbefpimhaopaa
open Go.Ax Go.Rw Go.ChangeShapes Go.WideShapes Go.ChangeAt Go.RowKit

/-- The row's last step where of the call's world no more is known than that nothing that stood has turned. -/
theorem post_of_below {H : Type} {enc : TypeId × Value → H} {P : Program} {f : Func} {s : ChangeSpec} {apart fresh handsOn again : Bool} {W W' : World} {args : Array Value} {v : Value} {ds gs : List (DataW H)} {before pa pv : List MemPlace}
    (hW : DataW.Whole enc P f.params.toList s.vars apart W args.toList ds gs before)
    (hres : ∀ (b : Nat) (sp : Nat → Bool) (hd : Bool), DataW.TrodAll enc P W' b sp hd f.resultTypes.toList (v.resultList f.resultTypes.size) (s.fn H (ds ++ gs)).results [])
    (hargs : ∀ sp : Nat → Bool, (∀ p ∈ before, sp p.block = true) → DataW.TrodAll enc P W' 0 sp true f.params.toList args.toList (s.fn H (ds ++ gs)).args pa)
    (hvars : ∀ sp : Nat → Bool, (∀ p ∈ before, sp p.block = true) → DataW.TrodVars enc P W' sp s.vars (s.fn H (ds ++ gs)).vars pv)
    (hps : before = pa ++ pv) (hb : Below W.heap.size W W')
    (hok : ∀ (j : Nat) (t : TypeId) (r : Value), f.resultTypes[j]? = some t → (v.resultList f.resultTypes.size)[j]? = some r → Value.okWide P W' .any 0 t r) :
    s.post enc P f apart fresh handsOn again W args v W' := by
  have hlt : ∀ p ∈ before, p.block < W.heap.size := fun p hp => hW.lt p hp
  have hold : ∀ p ∈ before, (fun b => decide (b < W.heap.size)) p.block = true := fun p hp => by simpa using hlt p hp
  refine ⟨ds, gs, before, [], pa, pv, hW, hres _ _ _, hargs _ hold, hvars _ hold, World.keptBut_mono (fun p hp => ⟨hp, ?_⟩) (hb.frame (· ∈ before)), fun _ => ?_⟩
  · rw [hps, List.mem_append] at hp
    exact Or.inr hp
  · obtain ⟨_, _, _, _, _, hz, hn⟩ := hW
    refine ⟨hok, _, _, ([] ++ pa) ++ pv, ⟨[] ++ pa, pv, trodAll_append (hargs _ (fun _ _ => rfl)) (hres _ _ _), hvars _ (fun _ _ => rfl), rfl, ?_, ?_⟩, ?_⟩
    · intro b off hp
      have hin : MemPlace.cell b off ∈ before := by rw [hps]; simpa using hp
      rw [hb.frozen (hlt _ hin)]
      exact hz b off hin
    · intro ha
      have := hn ha
      rw [hps] at this
      simpa using this
    · intro p hp _
      rw [hps]
      simpa using hp

theorem Try.own : ownKnob Try.prog.godebug = none := by kernel_rfl
theorem Try.laidOut : laidOutB Try.prog = true := by kernel_rfl

set_option maxRecDepth 100000 in
theorem bindRaw_lifted (os : Os) (started : os.Started) (H : Type) (enc : TypeId × Value → H) :
    ReturnsInHanded {} Try.checked os 3 .any (Rows.bindRawSpec.pre6 enc Try.prog Try.f3 Rows.bindRawRow.domain false) (Rows.bindRawSpec.post enc Try.prog Try.f3 false true false false) := by
  refine returnsInHanded_of_change (C := Try.checked) Try.own started (by kernel_rfl) Try.func3
    (ChangeSpec.witness6 (enc := enc) (C := Try.checked) false ⟨#[], #[.agg #[.slice none 0 0, .slice none 0 0], .slice none 0 0, .agg #[.int .u8 0, .string ⟨#[]⟩, .bool false, .int .u8 0, .int .i64 0, .string ⟨#[]⟩, .string ⟨#[]⟩, .string ⟨#[]⟩, .int .i64 0, .int .i64 0, .slice none 0 0]], []⟩ 8 (by kernel_rfl) (by kernel_rfl) (by kernel_rfl) (by kernel_rfl)) ?_
  intro W base args ds gs before hval0 hW hcnd _
  have hval : ∀ (j : Nat) t v, Try.f3.params[j]? = some t → args[j]? = some v → Value.okWide Try.prog W .any base t v := hval0
  have hW' := hW
  obtain ⟨p, q, hA0, hV, rfl, hfz, hnd⟩ := hW
  have hA : DataW.TrodAll enc Try.prog W 0 (fun _ => true) true Try.f3.params.toList args.toList ds p := hA0
  rw [Try.params3] at hA hval
  obtain ⟨v0, v1, v2, d0, d1, d2, p0, p1, p2, rfl, rfl, rfl, h0, h1, h2⟩ := trodAll_three hA
  obtain ⟨rfl, rfl⟩ := trodVars_none hV
  obtain ⟨cs0, rfl, _⟩ := okWide_struct Try.underlying25 (hval 0 25 v0 rfl rfl)
  obtain ⟨cs2, rfl, _⟩ := okWide_struct Try.underlying31 (hval 2 31 v2 rfl rfl)
  have k0 := h0
  have k1 := h1
  have k2 := h2
  obtain ⟨n0, t0⟩ := h0
  obtain ⟨n1, t1⟩ := h1
  obtain ⟨n2, t2⟩ := h2
  obtain ⟨b, r0, l1, l2, l3⟩ := opn_book t0
  obtain ⟨t, r2⟩ := opn_term n2 t2
  obtain ⟨tables, r1, _⟩ := opn_ints t1
  have e1 : RepD (blockLen W) W (ints tables) v1 := by
    have hs : ∃ A n c, v1 = .slice A n c := by
      have := hval 1 26 v1 rfl rfl
      simp only [Value.okWide, Try.underlying26, Cell.okWide] at this
      cases v1 <;> simp_all [Cell.ok]
    obtain ⟨A, n, c, rfl⟩ := hs
    cases r1 with
    | cons h t => exact h
  have e0 : RepD (blockLen W) W (encBook b) (.agg cs0) := by
    have := RepD.agg (cs := (encBook b).cells) (fun y hy => by simp [encBook, AV.cells] at hy; rcases hy with rfl | rfl <;> rfl) r0
    simpa [Value.cells, encBook, AV.cells] using this
  have e2 : RepD (blockLen W) W (encTerm t) (.agg cs2) := by
    have := RepD.agg (cs := (encTerm t).cells) (fun y hy => by simp [encTerm, AV.cells] at hy; rcases hy with rfl | rfl | rfl | rfl | rfl | rfl | rfl | rfl | rfl | rfl | rfl <;> rfl) r2
    simpa [Value.cells, encTerm, AV.cells] using this
  clear hA0 hval0
  simp only [List.append_nil] at hW'
  refine ((bindRaw_true b tables t l1 l2 l3).calls (.cons e0 (.cons e1 (.cons e2 .nil)))).mono fun e W' ⟨r, v, he, hr, hb, G', hrep⟩ => ?_
  subst he; subst hr
  have hv : v = .bool true := by cases hrep; rfl
  subst hv
  have lt0 : ∀ x ∈ p0, x.block < W.heap.size := fun x hx => hW'.lt x (by simp [hx])
  have lt1 : ∀ x ∈ p1, x.block < W.heap.size := fun x hx => hW'.lt x (by simp [hx])
  have lt2 : ∀ x ∈ p2, x.block < W.heap.size := fun x hx => hW'.lt x (by simp [hx])
  refine ⟨_, rfl, post_of_below (pa := p0 ++ (p1 ++ p2)) (pv := []) hW' (fun _ _ _ => trodAll_mk1 (shut_bool Try.underlying4 true)) (fun sp hsp => ?_) (fun _ _ => rfl) (by simp) hb (ok_one (by kernel_rfl) rfl (okWide_bool_mk Try.underlying4 true))⟩
  have a0 := WideElems.Trod_stays (W' := W') (sp' := sp) Try.laidOut (by kernel_rfl) (of_decide_eq_true (by kernel_rfl)) k0 (fun x hx => hb.same (lt0 x hx)) (fun x hx => hsp x (by simp [hx]))
  have a1 := WideElems.Trod_stays (W' := W') (sp' := sp) Try.laidOut (by kernel_rfl) (of_decide_eq_true (by kernel_rfl)) k1 (fun x hx => hb.same (lt1 x hx)) (fun x hx => hsp x (by simp [hx]))
  have a2 := WideElems.Trod_stays (W' := W') (sp' := sp) Try.laidOut (by kernel_rfl) (of_decide_eq_true (by kernel_rfl)) k2 (fun x hx => hb.same (lt2 x hx)) (fun x hx => hsp x (by simp [hx]))
  exact trodAll_mk3 a0 a1 a2

theorem bindRaw_holds : Rows.BindRawSaid :=
  OpenClaim.holds_of_wide 3 Try.f3 rfl rfl rfl rfl rfl rfl rfl ⟨rfl, rfl, rfl, rfl, rfl⟩ rfl rfl rfl rfl rfl (by kernel_rfl) Try.func3 (by kernel_rfl)
    (of_decide_eq_true (by kernel_rfl)) (by unfold Func.isWrapper; first | (rw [if_pos (by decide +kernel)]; kernel_rfl) | (rw [if_neg (by decide +kernel)]; exact ⟨rfl, rfl⟩))
    (fun os started H enc _ => bindRaw_lifted os started H enc)

end Go.Proofs.Ytafbefpimhaopaa
