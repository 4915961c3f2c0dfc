/- Ax, part R: code, loops, calls. No project text. -/
import Derived.Test.YtafbefpimhaopaaAxQ
set_option linter.unusedVariables false
set_option linter.unusedSimpArgs false
set_option linter.unnecessarySimpa false
set_option linter.unusedSectionVars false
namespace Go.Ax

inductive AExit where
  | normal | exit (id : Nat) | ret
def absE : Exit → Option AExit
  | .normal => some .normal
  | .exit id => some (.exit id)
  | .ret => some .ret
  | _ => none
abbrev AfterX (E : Entry) (n0 : Nat) (G0 : Gh) (w0 : World) (Q : AExit → St → Prop) : Exit → Act → World → Prop :=
  fun e a' w' => ∃ ae σ' G', absE e = some ae ∧ Q ae σ' ∧ Inv E G' σ' [] a' w' ∧ Step n0 G0 w0 σ'.hp.nb G' w'

/-- What was there when a call began: numbers below nb, nt; cuts: regions at which a run stops, so that the state may be told anew. -/
structure Base where
  nb : Nat
  nt : Nat
  cuts : List Nat
structure Old (B : Base) (G0 : Gh) : Prop where
  κ : ∀ i, B.nb ≤ i → G0.κ i = none
  τ : ∀ i, B.nt ≤ i → G0.τ i = none
/-- The code c, on its own. -/
def awp (P : Program) (B : Base) (c : Code) (σ : St) (Q : AExit → St → Prop) : Prop :=
  ∀ E G a w G0 w0, Inv E G σ [] a w → Old B G0 → Step B.nb G0 w0 σ.hp.nb G w → c.wp P (AfterX E B.nb G0 w0 Q) a w
/-- The loop with the round c, from a round's head on. -/
def LoopFrom (P : Program) (c : Code) (Q : Exit → Act → World → Prop) (a : Act) (w : World) : Prop :=
  ∀ (b : Go.Frame) (k : List Item) (cs : List Go.Frame), ∃ e a' w', Q e a' w' ∧ Arrives P (lone (b.at a (.code c :: .inLoop c :: k)) cs w) b k cs e a' w'
def aloop (P : Program) (B : Base) (c : Code) (σ : St) (Q : AExit → St → Prop) : Prop :=
  ∀ E G a w G0 w0, Inv E G σ [] a w → Old B G0 → Step B.nb G0 w0 σ.hp.nb G w → LoopFrom P c (AfterX E B.nb G0 w0 Q) a w

theorem loop_of {P : Program} {c : Code} {Q : Exit → Act → World → Prop} {a : Act} {w : World} (h : LoopFrom P c Q a w) : (Code.loop c).wp P Q a w := by
  intro b k cs
  obtain ⟨e, a', w', hq, harr⟩ := h b k cs
  exact ⟨e, a', w', hq, .of_steps (.one step_loop) harr⟩
theorem loop_round {P : Program} {c : Code} {Q : Exit → Act → World → Prop} {a : Act} {w : World} (h : c.wp P (Exit.then (LoopFrom P c Q) Q) a w) : LoopFrom P c Q a w := by
  intro b k cs
  obtain ⟨e, a₁, w₁, hq, harr⟩ := h b (.inLoop c :: k) cs
  cases e with
  | normal =>
    obtain ⟨e₂, a₂, w₂, hq₂, harr₂⟩ := hq b k cs
    exact ⟨e₂, a₂, w₂, hq₂, .of_steps (Steps.trans harr (.one step_inLoop)) harr₂⟩
  | exit id => exact ⟨_, a₁, w₁, hq, .pass (x := .inLoop c) rfl (fun _ _ => .inl (by simp)) harr⟩
  | goto l => exact ⟨_, a₁, w₁, hq, .pass (x := .inLoop c) rfl (fun _ _ => .inl (by simp)) harr⟩
  | ret => exact ⟨_, a₁, w₁, hq, .pass (x := .inLoop c) rfl (fun _ _ => .inl (by simp)) harr⟩
  | panic ch => exact ⟨_, a₁, w₁, hq, .pass (x := .inLoop c) rfl (fun _ _ => .inl (by simp)) harr⟩
  | outgrown => exact ⟨_, a₁, w₁, hq, .pass (x := .inLoop c) rfl (fun _ _ => .inl (by simp)) harr⟩

def St.known (σ : St) (c : Operand) (b : Bool) : St :=
  match c with
  | .tmp t => σ.put (some t) (.lit (.bool b))
  | _ => σ
theorem known_hp {σ : St} {c : Operand} {b : Bool} : (σ.known c b).hp = σ.hp := by cases c <;> rfl
/-- Behind code: its next piece where it ends as usual. -/
def seqK (b : St → (AExit → St → Prop) → Prop) (Q : AExit → St → Prop) : AExit → St → Prop
  | .normal, σ => b σ Q
  | e, σ => Q e σ
def blockK (id : Nat) (Q : AExit → St → Prop) : AExit → St → Prop
  | .exit id', σ => bif Nat.beq id' id then Q .normal σ else Q (.exit id') σ
  | e, σ => Q e σ

def headId : Code → Option Nat
  | .region i _ _ => some i
  | .seq a _ => headId a
  | _ => none
def cutAt (cuts : List Nat) (c : Code) : Bool :=
  match cuts with
  | [] => false
  | l => match headId c with
    | some i => memN i l
    | none => false
/-- Regions whose order is drawn (part T says what this comes to). -/
def arunDraw (P : Program) (B : Base) (tt : TT) (ops : Array Oper) (σ : St) (K : St → Prop) : Prop :=
  ∀ E G a w G0 w0, Inv E G σ [] a w → Old B G0 → Step B.nb G0 w0 σ.hp.nb G w → ∀ id, (Code.region id ops true).wp P (After E B.nb G0 w0 K) a w

def arun (P : Program) (B : Base) (tt : TT) : Code → St → (AExit → St → Prop) → Prop
  | .skip, σ, Q => Q .normal σ
  | .region _ ops false, σ, Q => arunOps P tt ops ops.toList σ (Q .normal)
  | .region _ ops true, σ, Q => arunDraw P B tt ops σ (Q .normal)
  | .seq a b, σ, Q => arun P B tt a σ (seqK (bif cutAt B.cuts b then awp P B b else arun P B tt b) Q)
  | .cond c x y, σ, Q => match opd σ.env c with
    | some (.lit (.bool b)) => Br b (arun P B tt x (σ.known c true) Q) (arun P B tt y (σ.known c false) Q)
    | _ => False
  | .block id c, σ, Q => arun P B tt c σ (blockK id Q)
  | .exit id, σ, Q => Q (.exit id) σ
  | .loop c, σ, Q => aloop P B c σ Q
  | .ret, σ, Q => Q .ret σ
  | .label _, σ, Q => Q .normal σ
  | _, _, _ => False

section
variable {P : Program} {B : Base} {tt : TT}

theorem wp_after {E : Entry} {n0 : Nat} {G0 : Gh} {w0 : World} {Q : AExit → St → Prop} {e : Exit} {a : Act} {w : World} (h : After E n0 G0 w0 (Q .normal) e a w) : AfterX E n0 G0 w0 Q e a w := by
  obtain ⟨rfl, σ', G', hK, hI, hL⟩ := h
  exact ⟨.normal, σ', G', rfl, hK, hI, hL⟩

theorem arun_awp (ok : TTOk P tt) : ∀ (c : Code) (σ : St) (Q : AExit → St → Prop), arun P B tt c σ Q → awp P B c σ Q := by
  intro c
  induction c with
  | skip => intro σ Q h E G a w G0 w0 I O L; exact wp_skip ⟨.normal, σ, G, rfl, h, I, L⟩
  | region id ops draw =>
    intro σ Q h E G a w G0 w0 I O L
    cases draw with
    | false =>
      refine wp_mono (wp_region ?_) (fun e a w => wp_after)
      have := arun_sound ok ops.toList 0 ops.size rfl (by simp) I L h
      rwa [← List.range_eq_range'] at this
    | true => exact wp_mono (h E G a w G0 w0 I O L id) (fun e a w => wp_after)
  | seq x y ihx ihy =>
    intro σ Q h E G a w G0 w0 I O L
    refine wp_seq (wp_mono (ihx σ _ h E G a w G0 w0 I O L) ?_)
    rintro e a' w' ⟨ae, σ', G', he, hq, I', L'⟩
    cases e <;> simp only [absE, Option.some.injEq, reduceCtorEq] at he <;> subst he
    · simp only [seqK] at hq
      cases hc : cutAt B.cuts y with
      | true => rw [hc] at hq; exact hq E G' a' w' G0 w0 I' O L'
      | false => rw [hc] at hq; exact ihy σ' Q hq E G' a' w' G0 w0 I' O L'
    · exact ⟨_, σ', G', rfl, hq, I', L'⟩
    · exact ⟨_, σ', G', rfl, hq, I', L'⟩
  | cond c x y ihx ihy =>
    intro σ Q h E G a w G0 w0 I O L
    simp only [arun] at h
    split at h
    · rename_i b hb
      have hr : Rep G w (.lit (.bool b)) (a.eval c) := opd_rep (fun t X e h' => by subst e; exact I.env t X h' (by simp)) hb
      have hv := (rep_lit hr).1
      have known : ∀ v, b = v → Inv E G (σ.known c v) [] a w := by
        intro v hv; subst hv
        cases c with
        | tmp t => exact I.again (by simpa [opd] using hb)
        | _ => exact I
      cases b with
      | true => exact wp_cond_true hv (ihx _ Q h E G a w G0 w0 (known true rfl) O (by rw [known_hp]; exact L))
      | false => exact wp_cond_false hv (ihy _ Q h E G a w G0 w0 (known false rfl) O (by rw [known_hp]; exact L))
    · exact h.elim
  | block id c ih =>
    intro σ Q h E G a w G0 w0 I O L
    refine wp_block (wp_mono (ih σ _ h E G a w G0 w0 I O L) ?_)
    rintro e a' w' ⟨ae, σ', G', he, hq, I', L'⟩
    cases e <;> simp only [absE, Option.some.injEq, reduceCtorEq] at he <;> subst he
    · exact ⟨_, σ', G', rfl, hq, I', L'⟩
    · rename_i id'
      simp only [Exit.inBlock]
      simp only [blockK] at hq
      split
      · rename_i e; subst e; simp at hq; exact ⟨_, σ', G', rfl, hq, I', L'⟩
      · rename_i e
        have : Nat.beq id' id = false := by
          cases hb : Nat.beq id' id with
          | true => exact absurd (Nat.eq_of_beq_eq_true hb) e
          | false => rfl
        rw [this] at hq; exact ⟨_, σ', G', rfl, hq, I', L'⟩
    · exact ⟨_, σ', G', rfl, hq, I', L'⟩
  | loop c ih => intro σ Q h E G a w G0 w0 I O L; exact loop_of (h E G a w G0 w0 I O L)
  | exit id => intro σ Q h E G a w G0 w0 I O L; exact wp_exit ⟨_, σ, G, rfl, h, I, L⟩
  | ret => intro σ Q h E G a w G0 w0 I O L; exact wp_ret ⟨_, σ, G, rfl, h, I, L⟩
  | label l => intro σ Q h E G a w G0 w0 I O L; exact wp_label ⟨_, σ, G, rfl, h, I, L⟩
  | rangeFunc f ps x y => intro σ Q h; exact h.elim
  | scope c => intro σ Q h; exact h.elim
  | goto l => intro σ Q h; exact h.elim
  | refuse s => intro σ Q h; exact h.elim

/-- One round of a loop. -/
theorem aloop_round (ok : TTOk P tt) {c : Code} {σ : St} {Q : AExit → St → Prop} (h : arun P B tt c σ (seqK (fun σ' Q => aloop P B c σ' Q) Q)) : aloop P B c σ Q := by
  intro E G a w G0 w0 I O L
  refine loop_round (wp_mono (arun_awp ok c σ _ h E G a w G0 w0 I O L) ?_)
  rintro e a' w' ⟨ae, σ', G', he, hq, I', L'⟩
  cases e <;> simp only [absE, Option.some.injEq, reduceCtorEq] at he <;> subst he
  · exact hq E G' a' w' G0 w0 I' O L'
  · exact ⟨_, σ', G', rfl, hq, I', L'⟩
  · exact ⟨_, σ', G', rfl, hq, I', L'⟩

def notTup : AV → Bool
  | .tup _ => false
  | _ => true
def resQ (tt : TT) (σ : St) : List ResultVar → (List AV → Prop) → Prop
  | [], K => K []
  | .tmp t :: r, K => match look t σ.env with
    | some x => resQ tt σ r (fun l => K (x :: l))
    | none => False
  | .cell t T :: r, K => match tt T, look t σ.env with
    | some ty, some A => (loadQ ty (fun k => find k σ.hp.boxes) A).run (fun k => find k σ.hp.boxes) (fun x => resQ tt σ r (fun l => K (x :: l)))
    | _, _ => False
def endQ (Q : AV → Hp → Prop) (hp : Hp) : List AV → Prop
  | [x] => Q x hp
  | l => Chk (l.all notTup) (Q (.tup l) hp)
def retQ (tt : TT) (rs : List ResultVar) (Q : AV → Hp → Prop) : AExit → St → Prop
  | .exit _, _ => False
  | _, σ => resQ tt σ rs (endQ Q σ.hp)

theorem res_sound (ok : TTOk P tt) {E : Entry} {G : Gh} {σ : St} {a : Act} {w : World} (I : Inv E G σ [] a w) : ∀ {rs : List ResultVar} {K : List AV → Prop}, resQ tt σ rs K →
    ∃ l vs, K l ∧ All2 (Rep G w) l vs ∧ (rs.mapM fun (x : ResultVar) => (match x with
      | .tmp t => pure (a.tmps.getD t undef)
      | .cell t T => do loadVar T (← asAddr (a.tmps.getD t undef)) : Sem Value)).run P w = .ok vs w
  | [], K, h => ⟨[], [], h, .nil, by simp⟩
  | .tmp t :: r, K, h => by
    simp only [resQ] at h
    split at h
    · rename_i x hx
      obtain ⟨l, vs, hK, hr, hm⟩ := res_sound ok I h
      exact ⟨x :: l, _ :: vs, hK, .cons (I.env t x hx (by simp)) hr, by simp only [List.mapM_cons, Sem.run_bind, Sem.run_pure, Result.andThen_ok]; rw [hm]; rfl⟩
    · exact h.elim
  | .cell t T :: r, K, h => by
    simp only [resQ] at h
    split at h
    · rename_i ty A hty hA
      obtain ⟨x, hx, h⟩ := QRes.split _ (QRes.run_holds _ h)
      have hAr := I.env t A hA (by simp)
      obtain ⟨u, hu, hxr⟩ := load_sound (P := P) (ok _ _ hty) hAr (fun k hk bx b hf hb => I.h.boxes.rel k bx b hf hb) hx
      obtain ⟨l, vs, hK, hr, hm⟩ := res_sound ok I h
      have hload : (do loadVar T (← asAddr (a.tmps.getD t undef)) : Sem Value).run P w = .ok u w := by
        generalize hv : a.tmps.getD t undef = v at hu ⊢
        cases v with
        | pointer p => cases p with
          | none => simp [Instr.loadAt, Instr.sureAddr] at hu
          | some p => simpa [Instr.loadAt, Instr.sureAddr, asAddr] using hu
        | _ => simp [Instr.loadAt, Instr.sureAddr] at hu
      exact ⟨x :: l, u :: vs, hK, .cons hxr hr, by simp only [List.mapM_cons, Sem.run_bind]; rw [show (do loadVar T (← asAddr (a.tmps.getD t undef)) : Sem Value) = (asAddr (a.tmps.getD t undef) >>= fun y => loadVar T y) from rfl] at hload; simp only [Sem.run_bind] at hload; rw [hload]; simp only [Result.andThen_ok]; rw [hm]; rfl⟩
    · exact h.elim

def envOf : Nat → List AV → List (Nat × AV)
  | _, [] => []
  | i, x :: r => (i, x) :: envOf (i + 1) r
theorem envOf_look {G : Gh} {w : World} : ∀ {l : List AV} {vs : List Value} {i s : Nat} {x : AV}, All2 (Rep G w) l vs → look s (envOf i l) = some x → ∃ v, vs[s - i]? = some v ∧ i ≤ s ∧ Rep G w x v
  | [], _, i, s, x, _, h => by simp [envOf, look] at h
  | y :: l, _, i, s, x, .cons hy ht, h => by
    simp only [envOf, look_cons] at h
    split at h
    · rename_i e; subst e; simp at h; subst h; exact ⟨_, by simp, Nat.le_refl _, hy⟩
    · rename_i e
      obtain ⟨v, h1, h2, h3⟩ := envOf_look ht h
      refine ⟨v, ?_, by omega, h3⟩
      rw [show s - i = (s - (i + 1)) + 1 by omega]
      simpa using h1

theorem all_rep2 {G : Gh} {w : World} {xs : List AV} {vs : List Value} (h : All2 (Rep G w) xs vs) (hn : xs.all notTup = true) : All2 (Rep2 G w) xs vs := by
  induction h with
  | nil => exact .nil
  | cons hx _ ih =>
    simp only [List.all_cons, Bool.and_eq_true] at hn
    refine .cons ?_ (ih hn.2)
    rw [rep_eq (by intro cs e; subst e; simp [notTup] at hn)] at hx
    exact hx
/-- A call, by its function's code. -/
theorem icalls_rows (ok : TTOk P tt) (rows cuts : List Nat) {g : FuncId} {fn : Func} {c : Code} {args : List AV} {hp : Hp} {Q : AV → Hp → Prop} (hf : P.funcs[g]? = some fn) (hb : fn.body = some c) (hn : (fn.name == "runtime.NumGoroutine") = false) (hs : Nat.ble args.length fn.ntmps = true)
    (h : arun P ⟨hp.nb, hp.nt, cuts⟩ tt c ⟨envOf 0 args, fn.ntmps, hp, rows⟩ (retQ tt fn.results.toList Q)) : ICalls P g args hp Q := by
  refine ⟨⟨fn, hf, by rw [hb]; rfl, hn⟩, fun E G w vs H A => ?_⟩
  have hs := Nat.le_of_ble_eq_true hs
  have hl := A.length
  refine calls_of_wp hf hb ?_
  have I : Inv E G ⟨envOf 0 args, fn.ntmps, hp, rows⟩ [] { tmps := vs.toArray ++ Array.replicate (fn.ntmps - vs.toArray.size) undef, defers := [] } w := by
    refine ⟨rfl, by simp; omega, fun s x hx _ => ?_, H⟩
    obtain ⟨v, h1, _, h3⟩ := envOf_look A hx
    have hlt : s < vs.length := by have := (List.getElem?_eq_some_iff.1 h1).1; omega
    rw [Array.getD_eq_getD_getElem?, Array.getElem?_append_left (by simpa using hlt)]
    simp at h1
    simp [h1]
    exact h3
  refine wp_mono (arun_awp ok c _ _ h E G _ w G w I ⟨H.nb, H.nt⟩ (.refl _ _ _)) ?_
  rintro e a' w' ⟨ae, σ', G', he, hq, I', L'⟩
  have fin : resQ tt σ' fn.results.toList (endQ Q σ'.hp) → a'.defers = [] ∧ ∃ v, (results fn a'.tmps).run P w' = .ok v w' ∧ ∃ r v' hp' G'', Ending.returned v = .returned v' ∧ Q r hp' ∧ HInv E G'' hp' w' ∧ Step hp.nb G w hp'.nb G'' w' ∧ Rep G'' w' r v' := by
    intro hr
    obtain ⟨l, us, hK, hall, hm⟩ := res_sound ok I' hr
    have hres : (results fn a'.tmps).run P w' = .ok (if h : us.length = 1 then us[0]'(by omega) else .tuple us.toArray) w' := by
      unfold results
      rw [Sem.run_bind, Array.mapM_eq_mapM_toList]
      simp only [Sem.run_map]
      erw [hm]
      simp
    refine ⟨I'.defers, _, hres, ?_⟩
    cases hall with
    | nil => exact ⟨_, _, _, G', rfl, (Chk.out (b := true) hK).2, I'.h, L', ⟨[], rfl, .nil⟩⟩
    | cons hx ht =>
      rename_i x v xs vs'
      cases ht with
      | nil => exact ⟨_, _, _, G', rfl, hK, I'.h, L', by simpa using hx⟩
      | cons hy ht2 =>
        obtain ⟨hnt, hQ⟩ := Chk.out (show Chk (List.all _ notTup) (Q (.tup _) _) from hK)
        refine ⟨_, _, _, G', rfl, hQ, I'.h, L', ?_⟩
        exact ⟨_, by simp, all_rep2 (.cons hx (.cons hy ht2)) hnt⟩
  cases e <;> simp only [absE, Option.some.injEq, reduceCtorEq] at he <;> subst he
  · exact fin hq
  · exact hq.elim
  · exact fin hq
theorem icalls_of (ok : TTOk P tt) {g : FuncId} {fn : Func} {c : Code} {args : List AV} {hp : Hp} {Q : AV → Hp → Prop} (hf : P.funcs[g]? = some fn) (hb : fn.body = some c) (hn : (fn.name == "runtime.NumGoroutine") = false) (hs : Nat.ble args.length fn.ntmps = true)
    (h : arun P ⟨hp.nb, hp.nt, []⟩ tt c ⟨envOf 0 args, fn.ntmps, hp, []⟩ (retQ tt fn.results.toList Q)) : ICalls P g args hp Q := icalls_rows ok [] [] hf hb hn hs h
end
end Go.Ax
