/- Ax, part Z: regions whose order is drawn: the simulation. No project text. -/
import Derived.Test.YtafbefpimhaopaaAxY
set_option linter.unusedVariables false
set_option linter.unusedSimpArgs false
set_option linter.unnecessarySimpa false
set_option linter.unusedSectionVars false
namespace Go.Ax
inductive Ord (ops : Array Oper) : List Nat → Prop
  | nil : Ord ops []
  | cons {i : Nat} {r : List Nat} {o : Oper} : ops[i]? = some o → i ∉ r → (∀ e, e ∈ o.after → Region.binds .any e = true → e.on ∈ r) → Ord ops r → Ord ops (i :: r)
theorem Ord.mem {ops : Array Oper} {l : List Nat} (h : Ord ops l) {i : Nat} (hi : i ∈ l) : ∃ o, ops[i]? = some o ∧ ∀ e, e ∈ o.after → Region.binds .any e = true → e.on ∈ l := by
  induction h with
  | nil => cases hi
  | cons h1 h2 h3 h4 ih =>
    rcases List.mem_cons.1 hi with rfl | hi
    · exact ⟨_, h1, fun e he hb => List.mem_cons_of_mem _ (h3 e he hb)⟩
    · obtain ⟨o, ho, h⟩ := ih hi; exact ⟨o, ho, fun e he hb => List.mem_cons_of_mem _ (h e he hb)⟩

section
variable {P : Program} {tt : TT} {ops : Array Oper} {K : St → Prop} {E : Entry}
structure Sim (P : Program) (tt : TT) (ops : Array Oper) (E : Entry) (n0 : Nat) (G0 : Gh) (w0 : World) (done : List Nat) (rd : List (Nat × Key)) (σ : St) (listed : Array Bool) (pend : List Nat) (al : List (Nat × Nat)) (G : Gh) (a : Act) (w : World) : Prop where
  inv : Inv E G σ pend a w
  size : listed.size = ops.size
  lst : ∀ i, listed.getD i false = true → i ∈ done
  ord : Ord ops done
  recs : ∀ i o, i ∈ done → listed.getD i false = false → ops[i]? = some o → isQuiet o.op = true ∧ (Rec ops tt rd σ i o ∨ ∃ k, (i, k) ∈ al)
  als : ∀ i k, (i, k) ∈ al → i ∈ done ∧ listed.getD i false = false ∧ G.κ k = none ∧ n0 ≤ k ∧ ∃ o, ops[i]? = some o ∧ isQuiet o.op = true ∧ RecA ops tt rd σ i o k
  nod : (al.map (·.2)).Nodup
  pd : ∀ t, t ∈ pend → ∃ i o, i ∈ done ∧ listed.getD i false = false ∧ ops[i]? = some o ∧ o.dst = some t
  st : Step n0 G0 w0 σ.hp.nb G w

theorem getD_lt {listed : Array Bool} {i : Nat} (h : i < listed.size) : listed.getD i true = listed.getD i false := by
  simp [Array.getD, h]
theorem put_look {σ : St} {d : Option Tmp} {x : AV} {t : Tmp} (h : d ≠ some t) : look t (σ.put d x).env = look t σ.env := by
  cases d with
  | none => rfl
  | some d => simp only [St.put, look_cons]; rw [if_neg (fun e => h (by rw [e]))]
theorem put_look_same {σ : St} {d : Tmp} {x : AV} : look d (σ.put (some d) x).env = some x := by
  simp [St.put, look_cons]
theorem put_size {σ : St} {d : Option Tmp} {x : AV} : (σ.put d x).size = σ.size := by cases d <;> rfl
def addP (d : Option Tmp) (pend : List Nat) : List Nat :=
  match d with
  | none => pend
  | some d => d :: pend
variable {n0 : Nat} {G0 : Gh} {w0 : World} {done : List Nat} {rd : List (Nat × Key)} {σ : St} {listed : Array Bool} {pend : List Nat} {al : List (Nat × Nat)} {G : Gh} {a : Act} {w : World}

/-- Other quiet operations' slots stand. -/
theorem Sim.apart (S : Sim P tt ops E n0 G0 w0 done rd σ listed pend al G a w) (hap : apartB ops = true) {q : Nat} {o : Oper} (hq : ops[q]? = some o) (hqq : isQuiet o.op = true) (hn : q ∉ done)
    {σ1 : St} (hl : ∀ t, o.dst ≠ some t → look t σ1.env = look t σ.env) {i : Nat} {p : Oper} (hi : i ∈ done) (hp : ops[i]? = some p) :
    (∀ t, t ∈ tmpsOf ops p → look t σ1.env = look t σ.env) ∧ (∀ d, p.dst = some d → look d σ1.env = look d σ.env) := by
  have hne : q ≠ i := fun e => hn (e ▸ hi)
  refine ⟨fun t ht => hl t fun hd => ?_, fun d hd => hl d fun e => (apart_of hap hq hp hne e).2 hd⟩
  rcases (apart_of hap hq hp hne hd).1 ht with h | h
  · obtain ⟨e, he, hb, hon⟩ := edgeB_iff.1 h
    obtain ⟨p', hp', hafter⟩ := S.ord.mem hi
    rw [hp] at hp'; cases hp'
    exact hn (hon ▸ hafter e he hb)
  · rw [hqq] at h; cases h.1
theorem Sim.pd_add (S : Sim P tt ops E n0 G0 w0 done rd σ listed pend al G a w) {q : Nat} {o : Oper} (hq : ops[q]? = some o) (hn : q ∉ done) :
    ∀ t, t ∈ addP o.dst pend → ∃ i o', i ∈ q :: done ∧ listed.getD i false = false ∧ ops[i]? = some o' ∧ o'.dst = some t := by
  intro t ht
  have old : t ∈ pend → ∃ i o', i ∈ q :: done ∧ listed.getD i false = false ∧ ops[i]? = some o' ∧ o'.dst = some t := by
    intro ht
    obtain ⟨i, p, h1, h2, h3, h4⟩ := S.pd t ht
    exact ⟨i, p, List.mem_cons_of_mem _ h1, h2, h3, h4⟩
  cases hd : o.dst with
  | none => rw [hd] at ht; exact old ht
  | some d =>
    rw [hd] at ht
    rcases List.mem_cons.1 ht with rfl | ht
    · refine ⟨q, o, List.mem_cons_self, ?_, hq, hd⟩
      cases hg : listed.getD q false with
      | false => rfl
      | true => exact absurd (S.lst q hg) hn
    · exact old ht
theorem Sim.quiet (S : Sim P tt ops E n0 G0 w0 done rd σ listed pend al G a w) (hap : apartB ops = true) {q : Nat} {o : Oper} (hq : ops[q]? = some o) (hqq : isQuiet o.op = true) (hn : q ∉ done) (hr : readyB done o = true)
    {σ1 : St} (hl : ∀ t, look t σ1.env = look t σ.env) (hz : σ1.size = σ.size) (hh : σ1.hp = σ.hp) {x : AV} {rd' : List (Nat × Key)} (hrd : ∀ y, y ∈ rd → y ∈ rd')
    (R : Rec ops tt rd' (σ1.put o.dst x) q o) : Sim P tt ops E n0 G0 w0 (q :: done) rd' (σ1.put o.dst x) listed (addP o.dst pend) al G a w := by
  have I1 : Inv E G σ1 pend a w := ⟨S.inv.defers, by rw [hz]; exact S.inv.tmps, fun s y hy => S.inv.env s y (by rw [← hl]; exact hy), by rw [hh]; exact S.inv.h⟩
  have hlk : ∀ t, o.dst ≠ some t → look t (σ1.put o.dst x).env = look t σ.env := fun t h => (put_look h).trans (hl t)
  refine ⟨?_, S.size, fun i hi => List.mem_cons_of_mem _ (S.lst i hi), .cons hq hn (readyB_iff.1 hr) S.ord, ?_, ?_, S.nod, S.pd_add hq hn, by rw [put_hp, hh]; exact S.st⟩
  · cases hd : o.dst with
    | none => exact I1
    | some d => exact I1.abs d x
  · intro i p hi hu hp
    rcases List.mem_cons.1 hi with rfl | hi
    · rw [hq] at hp; cases hp; exact ⟨hqq, .inl R⟩
    · obtain ⟨hpq, r⟩ := S.recs i p hi hu hp
      obtain ⟨h1, h2⟩ := S.apart hap hq hqq hn hlk hi hp
      refine ⟨hpq, r.imp (fun r => r.keep (by rw [put_size, hz]) h1 h2 (fun k bx _ hf => by rw [put_hp, hh]; exact hf) hrd) id⟩
  · intro i k hik
    obtain ⟨hi, hu, hk, hk0, p, hp, hpq, r⟩ := S.als i k hik
    obtain ⟨h1, h2⟩ := S.apart hap hq hqq hn hlk hi hp
    exact ⟨List.mem_cons_of_mem _ hi, hu, hk, hk0, p, hp, hpq, r.keep (by rw [put_size, hz]) h1 h2 (fun k bx _ hf => by rw [put_hp, hh]; exact hf) (by rw [put_hp, hh]; exact Nat.le_refl _) hrd⟩
/-- A variable's making is told. -/
theorem Sim.alloc (S : Sim P tt ops E n0 G0 w0 done rd σ listed pend al G a w) (hap : apartB ops = true) {q : Nat} {o : Oper} (hq : ops[q]? = some o) (hqq : isQuiet o.op = true) (hn : q ∉ done) (hr : readyB done o = true)
    {σ1 : St} (hl : ∀ t, look t σ1.env = look t σ.env) (hz : σ1.size = σ.size) (hh : σ1.hp = σ.hp) {T : TypeId} {ty : TyI} {zs : List AV} {d : Tmp} (ho : o.op = .alloc T) (hty : tt T = some ty) (hzs : avsOf ty.zero = some zs) (hd : o.dst = some d) (hdo : dstOk σ1 o.dst = true)
    (hg : o.guard = none ∨ ∃ j want oj t, o.guard = some (j, want) ∧ ops[j]? = some oj ∧ oj.dst = some t ∧ look t σ.env = some (.lit (.bool want))) :
    Sim P tt ops E n0 G0 w0 (q :: done) ((q, .l σ1.hp.nb) :: rd) ((σ1.withHp (σ1.hp.addBox (.cells zs))).put (some d) (.ptr (.l σ1.hp.nb) 0)) listed (addP o.dst pend) ((q, σ1.hp.nb) :: al) G a w := by
  have I1 : Inv E G (σ1.withHp (σ1.hp.addBox (.cells zs))) pend a w := ⟨S.inv.defers, by show _ = σ1.size; rw [hz]; exact S.inv.tmps, fun s y hy => S.inv.env s y (by rw [← hl]; exact hy), by show HInv E G (σ1.hp.addBox _) w; rw [hh]; exact S.inv.h.addBox _⟩
  have hlk : ∀ t, o.dst ≠ some t → look t ((σ1.withHp (σ1.hp.addBox (.cells zs))).put (some d) (.ptr (.l σ1.hp.nb) 0)).env = look t σ.env := fun t h => (put_look (σ := σ1.withHp _) (by rw [← hd]; exact h)).trans (hl t)
  have hbx : ∀ {i : Nat} (k : Key) (bx : Box), (i, k) ∈ rd → find k σ.hp.boxes = some bx → find k ((σ1.withHp (σ1.hp.addBox (.cells zs))).put (some d) (.ptr (.l σ1.hp.nb) 0)).hp.boxes = some bx := by
    intro i k bx _ hf
    rw [put_hp]
    refine (find_addBox fun e => ?_).trans (by rw [hh]; exact hf)
    obtain ⟨m, hm, hlt⟩ := S.inv.h.bk k bx hf
    rw [hm, hh] at e; cases e; omega
  have hsub : ∀ y, y ∈ rd → y ∈ (q, Key.l σ1.hp.nb) :: rd := fun y hy => List.mem_cons_of_mem _ hy
  have hnb : σ.hp.nb ≤ ((σ1.withHp (σ1.hp.addBox (.cells zs))).put (some d) (.ptr (.l σ1.hp.nb) 0)).hp.nb := by rw [put_hp]; show _ ≤ σ1.hp.nb + 1; rw [hh]; omega
  have hun : listed.getD q false = false := by
    cases hg : listed.getD q false with
    | false => rfl
    | true => exact absurd (S.lst q hg) hn
  refine ⟨by rw [hd]; exact I1.abs d _, S.size, fun i hi => List.mem_cons_of_mem _ (S.lst i hi), .cons hq hn (readyB_iff.1 hr) S.ord, ?_, ?_, ?_, S.pd_add hq hn, ⟨?_, S.st.low, S.st.later⟩⟩
  · intro i p hi hu hp
    rcases List.mem_cons.1 hi with rfl | hi
    · rw [hq] at hp; cases hp; exact ⟨hqq, .inr ⟨_, List.mem_cons_self⟩⟩
    · obtain ⟨hpq, r⟩ := S.recs i p hi hu hp
      obtain ⟨h1, h2⟩ := S.apart hap hq hqq hn hlk hi hp
      exact ⟨hpq, r.imp (fun r => r.keep (by rw [put_size]; exact hz) h1 h2 hbx hsub) (fun ⟨k, hk⟩ => ⟨k, List.mem_cons_of_mem _ hk⟩)⟩
  · intro i k hik
    rcases List.mem_cons.1 hik with e | hik
    · cases e
      refine ⟨List.mem_cons_self, hun, by rw [hh]; exact S.inv.h.nb _ (Nat.le_refl _), by rw [hh]; exact S.st.le, o, hq, hqq, ?_, T, ty, zs, d, ho, hty, hzs, hd, ?_, put_look_same, ?_, List.mem_cons_self, ?_⟩
      · rcases hg with hg | ⟨j, want, oj, t, hg, hj, hjd, hl2⟩
        · exact .inl hg
        · exact .inr ⟨j, want, oj, t, hg, hj, hjd, (hlk t fun e => apart_self hap hq e (tmps_guard hg hj hjd)).trans hl2⟩
      · unfold dstOk at hdo ⊢; rw [put_size]; exact hdo
      · rw [put_hp]; show _ < σ1.hp.nb + 1; omega
      · rw [put_hp]; show find _ (σ1.hp.addBox _).boxes = _; simp [Hp.addBox, find_cons]
    · obtain ⟨hi, hu, hk, hk0, p, hp, hpq, r⟩ := S.als i k hik
      obtain ⟨h1, h2⟩ := S.apart hap hq hqq hn hlk hi hp
      exact ⟨List.mem_cons_of_mem _ hi, hu, hk, hk0, p, hp, hpq, r.keep (by rw [put_size]; exact hz) h1 h2 hbx hnb hsub⟩
  · simp only [List.map_cons]
    refine List.nodup_cons.2 ⟨fun hm => ?_, S.nod⟩
    obtain ⟨⟨i, k⟩, hik, hk⟩ := List.mem_map.1 hm
    obtain ⟨_, _, _, _, p, _, _, r⟩ := S.als i k hik
    obtain ⟨_, _, _, _, _, _, _, _, _, _, hlt, _⟩ := r.get
    simp only at hk
    rw [hk, hh] at hlt; omega
  · rw [put_hp]; show n0 ≤ σ1.hp.nb + 1; rw [hh]; have := S.st.le; omega
structure Same (σ σ1 : St) : Prop where
  look : ∀ t, look t σ1.env = look t σ.env
  size : σ1.size = σ.size
  hp : σ1.hp = σ.hp
theorem Same.again {σ : St} {t : Tmp} {x : AV} (h : Go.Ax.look t σ.env = some x) : Same σ (σ.put (some t) x) :=
  ⟨fun s => by
    simp only [St.put, look_cons]
    split
    · rename_i e; rw [e, h]
    · rfl, rfl, rfl⟩
theorem guardD_cases {o : Oper} {run skip : St → Prop} (h : guardD ops o σ run skip) :
    (∃ σ1, Same σ σ1 ∧ (o.guard = none ∨ ∃ j want oj t, o.guard = some (j, want) ∧ ops[j]? = some oj ∧ oj.dst = some t ∧ look t σ.env = some (.lit (.bool want))) ∧ run σ1) ∨
    (∃ σ1, Same σ σ1 ∧ (∃ j want oj t, o.guard = some (j, want) ∧ ops[j]? = some oj ∧ oj.dst = some t ∧ NotW (look t σ.env) want) ∧ dstOk σ o.dst = true ∧ skip (σ1.put o.dst (.tup []))) := by
  unfold guardD at h
  split at h
  · rename_i hg; exact .inl ⟨σ, ⟨fun _ => rfl, rfl, rfl⟩, .inl hg, h⟩
  · rename_i j want hg
    split at h
    · exact h.elim
    · rename_i oj hj
      split at h
      · exact h.elim
      · rename_i t ht
        split at h
        · rename_i b hb
          cases hw : (bif want then b else !b) with
          | true =>
            rw [hw] at h
            have hbw : b = want := by cases want <;> cases b <;> simp_all
            subst hbw
            exact .inl ⟨_, .again hb, .inr ⟨j, b, oj, t, hg, hj, ht, hb⟩, h⟩
          | false =>
            rw [hw] at h
            have hbw : b = !want := by cases want <;> cases b <;> simp_all
            subst hbw
            have h : (bif dstOk σ o.dst then skip ((σ.put (some t) (.lit (.bool (!want)))).put o.dst (.tup [])) else False) := h
            cases hd : dstOk σ o.dst with
            | false => rw [hd] at h; exact h.elim
            | true => rw [hd] at h; exact .inr ⟨_, .again hb, ⟨j, want, oj, t, hg, hj, ht, .inl hb⟩, rfl, h⟩
        · rename_i cs hb
          cases hd : dstOk σ o.dst with
          | false => rw [hd] at h; exact h.elim
          | true => rw [hd] at h; exact .inr ⟨σ, ⟨fun _ => rfl, rfl, rfl⟩, ⟨j, want, oj, t, hg, hj, ht, .inr ⟨_, hb⟩⟩, rfl, h⟩
        · exact h.elim
theorem keysX_mem {fb : Key → Option Box} {X : AV} {k : Key} : ∀ {l : List AV}, X ∈ l → k ∈ keysOf fb X → k ∈ keysX fb l
  | Y :: r, hX, hk => by
    unfold keysX
    rcases List.mem_cons.1 hX with rfl | hX
    · exact List.mem_append_left _ hk
    · exact List.mem_append_right _ (keysX_mem hX hk)
theorem tagKeys_mem {i : Nat} {k : Key} : ∀ {l : List Key}, k ∈ l → (i, k) ∈ tagKeys i l
  | k' :: r, h => by
    unfold tagKeys
    rcases List.mem_cons.1 h with rfl | h
    · exact List.mem_cons_self
    · exact List.mem_cons_of_mem _ (tagKeys_mem h)
theorem saturate (hap : apartB ops = true) : ∀ (n : Nat) {done : List Nat} {rd : List (Nat × Key)} {σ : St} {pend : List Nat} {al : List (Nat × Nat)}, arunD P tt ops K n done rd σ → Sim P tt ops E n0 G0 w0 done rd σ listed pend al G a w →
    ∃ n' done' rd' σ' pend' al', arunD P tt ops K (n' + 1) done' rd' σ' ∧ Sim P tt ops E n0 G0 w0 done' rd' σ' listed pend' al' G a w ∧ firstQuiet ops.toList done' 0 ops.toList = none
  | 0, done, rd, σ, pend, al, h, S => h.elim
  | n + 1, done, rd, σ, pend, al, h, S => by
    cases hf : firstQuiet ops.toList done 0 ops.toList with
    | none => exact ⟨n, done, rd, σ, pend, al, h, S, hf⟩
    | some qo =>
      obtain ⟨q, o⟩ := qo
      unfold arunD at h
      rw [hf] at h
      obtain ⟨hq, hqq, hn, hr⟩ := firstQuiet_some (fun k => by simp) hf
      have hq : ops[q]? = some o := by simpa using hq
      rcases guardD_cases h with ⟨σ1, sm, hg, h⟩ | ⟨σ1, sm, ⟨j, want, oj, t, hg, hj, hjd, hl⟩, hd, h⟩
      · have plain : (bif dstOk σ1 o.dst then (qop tt (opd σ1.env) (fun k => find k σ1.hp.boxes) o.op).run (fun k => find k σ1.hp.boxes)
          (fun x => arunD P tt ops K n (q :: done) (tagKeys q (keysX (fun k => find k σ1.hp.boxes) (readsX (opd σ1.env) o.op)) ++ rd) (σ1.put o.dst x)) else False) →
          ∃ n' done' rd' σ' pend' al', arunD P tt ops K (n' + 1) done' rd' σ' ∧ Sim P tt ops E n0 G0 w0 done' rd' σ' listed pend' al' G a w ∧ firstQuiet ops.toList done' 0 ops.toList = none := by
          intro h
          cases hd : dstOk σ1 o.dst with
          | false => rw [hd] at h; exact h.elim
          | true =>
            rw [hd] at h
            obtain ⟨x, hx, h⟩ := QRes.split _ (QRes.run_holds _ h)
            refine saturate hap n h (S.quiet hap hq hqq hn hr sm.look sm.size sm.hp (fun y hy => List.mem_append_right _ hy) ⟨?_, .inr ⟨?_, σ1.env, fun k => find k σ1.hp.boxes, x, hx, ?_, ?_, ?_⟩⟩)
            · unfold dstOk at hd ⊢; rw [put_size]; exact hd
            · rcases hg with hg | ⟨j, want, oj, t, hg, hj, hjd, hl⟩
              · exact .inl hg
              · exact .inr ⟨j, want, oj, t, hg, hj, hjd, (put_look fun e => apart_self hap hq e (tmps_guard hg hj hjd)).trans ((sm.look t).trans hl)⟩
            · intro t ht
              exact (put_look fun e => apart_self hap hq e (tmps_operand ht)).symm
            · intro X hX k hk bx hb
              exact ⟨List.mem_append_left _ (tagKeys_mem (keysX_mem hX hk)), by rw [put_hp]; exact hb⟩
            · intro d e; rw [e]; exact put_look_same
        unfold quietD at h
        split at h
        · rename_i T ho
          split at h
          · rename_i ty d hty hdd
            split at h
            · rename_i zs hzs
              cases hd : dstOk σ1 o.dst with
              | false => rw [hd] at h; exact h.elim
              | true =>
                rw [hd] at h
                exact saturate hap n h (S.alloc hap hq hqq hn hr sm.look sm.size sm.hp ho hty hzs hdd hd hg)
            · exact h.elim
          · exact h.elim
        · exact plain h
      · refine saturate hap n h (S.quiet hap hq hqq hn hr sm.look sm.size sm.hp (fun y hy => hy) ⟨?_, .inl ⟨j, want, oj, t, hg, hj, hjd, ?_, ?_⟩⟩)
        · unfold dstOk at hd ⊢; rw [put_size, sm.size]; exact hd
        · rw [(put_look fun e => apart_self hap hq e (tmps_guard hg hj hjd)).trans (sm.look t)]; exact hl
        · intro d e; rw [e]; exact put_look_same
theorem set_listed {i j : Nat} : (listed.setIfInBounds i true).getD j false = false → listed.getD j false = false ∧ (i < listed.size → i ≠ j) := by
  intro h
  simp only [Array.getD_eq_getD_getElem?, Array.getElem?_setIfInBounds] at h ⊢
  split at h
  · rename_i e; subst e
    split at h
    · simp at h
    · rename_i hlt; exact ⟨by rw [Array.getElem?_eq_none (by omega)]; rfl, fun h' => absurd h' hlt⟩
  · rename_i e; exact ⟨h, fun _ => e⟩
theorem listed_set {i j : Nat} : (listed.setIfInBounds i true).getD j false = true → listed.getD j false = true ∨ j = i := by
  intro h
  simp only [Array.getD_eq_getD_getElem?, Array.getElem?_setIfInBounds] at h ⊢
  split at h
  · rename_i e; exact .inr e.symm
  · exact .inl h
theorem Sim.loud (S : Sim P tt ops E n0 G0 w0 done rd σ listed pend al G a w) (hap : apartB ops = true) {i : Nat} {o : Oper} (hi : ops[i]? = some o) (hn : i ∉ done)
    (hr : ∀ e, e ∈ o.after → Region.binds .any e = true → listed.getD e.on false = true) {σ' : St} (hz : σ'.size = σ.size) (hl : ∀ t, o.dst ≠ some t → look t σ'.env = look t σ.env)
    (hb : ∀ y, y ∈ openReads o rd → y.2 ≠ .l σ.hp.nb → find y.2 σ'.hp.boxes = find y.2 σ.hp.boxes) {G' : Gh} {a' : Act} {w' : World} (I : Inv E G' σ' pend a' w') (L : Step σ.hp.nb G w σ'.hp.nb G' w') :
    Sim P tt ops E n0 G0 w0 (i :: done) rd σ' (listed.setIfInBounds i true) pend al G' a' w' := by
  have hlt : i < listed.size := by rw [S.size]; exact (Array.getElem?_eq_some_iff.1 hi).1
  have nedge : ∀ j, listed.getD j false = false → ¬ edgeB o j = true := by
    intro j hu he
    obtain ⟨e, he, hbd, hon⟩ := edgeB_iff.1 he
    have := hr e he hbd
    rw [hon, hu] at this; cases this
  have stay : ∀ j, j ∈ done → listed.getD j false = false → (listed.setIfInBounds i true).getD j false = false := by
    intro j hj hu
    cases hg : (listed.setIfInBounds i true).getD j false with
    | false => rfl
    | true =>
      rcases listed_set hg with h | rfl
      · rw [hu] at h; cases h
      · exact absurd hj hn
  have keeps : ∀ {j : Nat} {p : Oper}, j ∈ done → listed.getD j false = false → ops[j]? = some p → (∀ t, t ∈ tmpsOf ops p → look t σ'.env = look t σ.env) ∧ (∀ d, p.dst = some d → look d σ'.env = look d σ.env) ∧
      (∀ k bx, (j, k) ∈ rd → find k σ.hp.boxes = some bx → find k σ'.hp.boxes = some bx) := by
    intro j p hj hu hp
    have hne : i ≠ j := fun e => hn (e ▸ hj)
    refine ⟨fun t ht => hl t fun hd => ?_, fun d hd => hl d fun e => (apart_of hap hi hp hne e).2 hd, fun k bx hk hf => ?_⟩
    · rcases (apart_of hap hi hp hne hd).1 ht with h | h
      · obtain ⟨e, he, hbd, hon⟩ := edgeB_iff.1 h
        obtain ⟨p', hp', hafter⟩ := S.ord.mem hj
        rw [hp] at hp'; cases hp'
        exact hn (hon ▸ hafter e he hbd)
      · exact nedge j hu h.2
    · rw [hb (j, k) ?_ ?_]; exact hf
      · refine List.mem_filter.2 ⟨hk, ?_⟩
        cases he : edgeB o j with
        | true => exact absurd he (nedge j hu)
        | false => unfold edgeB at he; simp only [he, Bool.not_false]
      · intro e
        obtain ⟨m, hm, hlt'⟩ := S.inv.h.bk k bx hf
        rw [hm] at e; cases e; omega
  refine ⟨I, by simpa using S.size, fun j hj => ?_, .cons hi hn (fun e he hbd => S.lst _ (hr e he hbd)) S.ord, ?_, ?_, S.nod, ?_, S.st.trans L⟩
  · rcases listed_set hj with h | rfl
    · exact List.mem_cons_of_mem _ (S.lst j h)
    · exact List.mem_cons_self
  · intro j p hj hu hp
    obtain ⟨hu, hne⟩ := set_listed hu
    have hne := hne hlt
    have hj : j ∈ done := (List.mem_cons.1 hj).resolve_left (fun e => hne e.symm)
    obtain ⟨hpq, r⟩ := S.recs j p hj hu hp
    obtain ⟨k1, k2, k3⟩ := keeps hj hu hp
    exact ⟨hpq, r.imp (fun r => r.keep hz k1 k2 k3 (fun y hy => hy)) id⟩
  · intro j k hjk
    obtain ⟨hj, hu, hk, hk0, p, hp, hpq, r⟩ := S.als j k hjk
    obtain ⟨k1, k2, k3⟩ := keeps hj hu hp
    have hlt := r.get
    obtain ⟨_, _, _, _, _, _, _, _, _, _, hlt, _⟩ := hlt
    exact ⟨List.mem_cons_of_mem _ hj, stay j hj hu, (L.low k hlt).trans hk, hk0, p, hp, hpq, r.keep hz k1 k2 k3 L.le (fun y hy => hy)⟩
  · intro t ht
    obtain ⟨j, p, hj, hu, hp, hd⟩ := S.pd t ht
    exact ⟨j, p, List.mem_cons_of_mem _ hj, stay j hj hu, hp, hd⟩
theorem nodup_pair {al : List (Nat × Nat)} (h : (al.map (·.2)).Nodup) {i j k : Nat} (hi : (i, k) ∈ al) (hj : (j, k) ∈ al) : i = j := by
  induction al with
  | nil => cases hi
  | cons x r ih =>
    simp only [List.map_cons] at h
    obtain ⟨h1, h2⟩ := List.nodup_cons.1 h
    rcases List.mem_cons.1 hi with e1 | hi2
    · rcases List.mem_cons.1 hj with e2 | hj2
      · rw [← e2] at e1; cases e1; rfl
      · exact absurd (List.mem_map.2 ⟨(j, k), hj2, by rw [← e1]⟩ : x.2 ∈ r.map (·.2)) h1
    · rcases List.mem_cons.1 hj with e2 | hj2
      · exact absurd (List.mem_map.2 ⟨(i, k), hi2, by rw [← e2]⟩ : x.2 ∈ r.map (·.2)) h1
      · exact ih h2 hi2 hj2
/-- A pending operation runs. -/
theorem Sim.real (S : Sim P tt ops E n0 G0 w0 done rd σ listed pend al G a w) (hap : apartB ops = true) {i : Nat} {o : Oper} (hi : ops[i]? = some o) (hd : i ∈ done) (hu : listed.getD i false = false) {G' : Gh} {a' : Act} {w' : World}
    (I : Inv E G' σ (dropP o.dst pend) a' w') (L : Step n0 G0 w0 σ.hp.nb G' w') (hk : ∀ j k, (j, k) ∈ al → j ≠ i → G'.κ k = none) : Sim P tt ops E n0 G0 w0 done rd σ (listed.setIfInBounds i true) (dropP o.dst pend) (al.filter fun x => x.1 ≠ i) G' a' w' := by
  have hlt : i < listed.size := by rw [S.size]; exact (Array.getElem?_eq_some_iff.1 hi).1
  have stay : ∀ j, j ≠ i → listed.getD j false = false → (listed.setIfInBounds i true).getD j false = false := by
    intro j hj hu
    cases hg : (listed.setIfInBounds i true).getD j false with
    | false => rfl
    | true =>
      rcases listed_set hg with h | rfl
      · rw [hu] at h; cases h
      · exact absurd rfl hj
  refine ⟨I, by simpa using S.size, fun j hj => ?_, S.ord, ?_, ?_, ?_, ?_, L⟩
  · rcases listed_set hj with h | rfl
    · exact S.lst j h
    · exact hd
  · intro j p hj hu' hp
    obtain ⟨hu', hne⟩ := set_listed hu'
    obtain ⟨h1, h2⟩ := S.recs j p hj hu' hp
    exact ⟨h1, h2.imp id fun ⟨k, hk⟩ => ⟨k, List.mem_filter.2 ⟨hk, by simpa using fun e => hne hlt e.symm⟩⟩⟩
  · intro j k hjk
    obtain ⟨hjk, hne⟩ := List.mem_filter.1 hjk
    have hne : j ≠ i := by simpa using hne
    obtain ⟨hj, hu', hk', hk0, p, hp, hpq, r⟩ := S.als j k hjk
    exact ⟨hj, stay j hne hu', hk j k hjk hne, hk0, p, hp, hpq, r⟩
  · exact S.nod.sublist ((List.filter_sublist).map _)
  · intro t ht
    have ht' : t ∈ pend ∧ o.dst ≠ some t := by
      unfold dropP at ht
      split at ht
      · rename_i hd; rw [hd]; exact ⟨ht, by simp⟩
      · rename_i d hd
        rw [hd]
        simp at ht
        exact ⟨ht.1, fun e => ht.2 (Option.some.inj e).symm⟩
    obtain ⟨j, p, hj, hu', hp, hd'⟩ := S.pd t ht'.1
    refine ⟨j, p, hj, stay j (fun e => ?_) hu', hp, hd'⟩
    subst e
    rw [hi] at hp; cases hp; exact absurd hd' ht'.2
theorem Sim.reads (S : Sim P tt ops E n0 G0 w0 done rd σ listed pend al G a w) (hap : apartB ops = true) {i : Nat} {o : Oper} (hi : ops[i]? = some o)
    (hr : ∀ e, e ∈ o.after → Region.binds .any e = true → listed.getD e.on false = true) : ∀ t, t ∈ tmpsOf ops o → t ∉ pend := by
  intro t ht hp
  obtain ⟨j, p, hj, hu, hp', hd⟩ := S.pd t hp
  have hq := (S.recs j p hj hu hp').1
  by_cases hne : j = i
  · subst hne; rw [hi] at hp'; cases hp'; exact apart_self hap hi hd ht
  · rcases (apart_of hap hp' hi hne hd).1 ht with h | h
    · obtain ⟨e, he, hb, hon⟩ := edgeB_iff.1 h
      have := hr e he hb
      rw [hon, hu] at this; cases this
    · rw [hq] at h; cases h.1
theorem ord_listed (hz : listed.size = ops.size) (hr0 : Region.ready .any ops listed = []) : ∀ {l : List Nat}, Ord ops l → ∀ i, i ∈ l → listed.getD i false = true := by
  intro l h
  induction h with
  | nil => intro i hi; cases hi
  | cons h1 h2 h3 h4 ih =>
    rename_i j r o
    intro i hi
    rcases List.mem_cons.1 hi with rfl | hi
    · cases hl : listed.getD i false with
      | true => rfl
      | false =>
        have : i ∈ Region.ready .any ops listed := mem_ready.2 ⟨by rw [getD_lt (by rw [hz]; exact (Array.getElem?_eq_some_iff.1 h1).1)]; exact hl, o, h1, fun e he hb => ih _ (h3 e he hb)⟩
        rw [hr0] at this; cases this
    · exact ih i hi
theorem sim_end {n : Nat} (S : Sim P tt ops E n0 G0 w0 done rd σ listed pend al G a w) (h : arunD P tt ops K (n + 1) done rd σ) (hf : firstQuiet ops.toList done 0 ops.toList = none) (hr0 : Region.ready .any ops listed = []) :
    K σ ∧ Inv E G σ [] a w := by
  have hall := ord_listed S.size hr0 S.ord
  have hp : pend = [] := by
    cases hp : pend with
    | nil => rfl
    | cons t r =>
      obtain ⟨j, p, hj, hu, _⟩ := S.pd t (by rw [hp]; exact List.mem_cons_self)
      rw [hall j hj] at hu; cases hu
  subst hp
  refine ⟨?_, S.inv⟩
  unfold arunD at h
  rw [hf] at h
  cases hl : readyLouds done 0 ops.toList with
  | nil =>
    simp only [hl] at h
    cases hb : Nat.beq done.length ops.size with
    | false => rw [hb] at h; exact h.elim
    | true => rw [hb] at h; exact h
  | cons x r =>
    exfalso
    obtain ⟨h1, h2, h3⟩ := readyLouds_mem (ops := ops.toList) (l := ops.toList) (i := 0) (fun k => by simp) (x := x) (by rw [hl]; exact List.mem_cons_self)
    have h1 : ops[x.1]? = some x.2 := by simpa using h1
    have : x.1 ∈ Region.ready .any ops listed := by
      refine mem_ready.2 ⟨?_, x.2, h1, fun e he hb => hall _ (readyB_iff.1 h3 e he hb)⟩
      rw [getD_lt (by rw [S.size]; exact (Array.getElem?_eq_some_iff.1 h1).1)]
      cases hg : listed.getD x.1 false with
      | false => rfl
      | true => exact absurd (S.lst _ hg) h2
    rw [hr0] at this; cases this
def cnt : List Bool → Nat
  | [] => 0
  | b :: r => (if b then 0 else 1) + cnt r
theorem cnt_set : ∀ {l : List Bool} {i : Nat}, l[i]? = some false → cnt (l.set i true) + 1 = cnt l
  | [], i, h => by simp at h
  | b :: r, 0, h => by simp at h; subst h; simp [cnt]; omega
  | b :: r, i + 1, h => by have := cnt_set (l := r) (i := i) (by simpa using h); simp [cnt]; omega
theorem cnt_zero : ∀ {l : List Bool} {i : Nat} {b : Bool}, cnt l = 0 → l[i]? = some b → b = true
  | [], i, b, _, h => by simp at h
  | c :: r, 0, b, hc, h => by
    simp at h; subst h
    cases c with
    | true => rfl
    | false => simp [cnt] at hc
  | c :: r, i + 1, b, hc, h => cnt_zero (l := r) (i := i) (by simp only [cnt] at hc; omega) (by simpa using h)
theorem cnt_rep : ∀ (n : Nat), cnt (List.replicate n false) = n
  | 0 => rfl
  | n + 1 => by simp only [List.replicate_succ, cnt, cnt_rep n]; simp; omega
theorem getD_some {i : Nat} {b : Bool} (hlt : i < listed.size) (h : listed.getD i false = b) : listed.toList[i]? = some b := by
  subst h
  simp [Array.getD, hlt]
theorem sim_any (ok : TTOk P tt) (hap : apartB ops = true) : ∀ (fuel : Nat) {n : Nat} {done : List Nat} {rd : List (Nat × Key)} {σ : St} {listed : Array Bool} {pend : List Nat} {al : List (Nat × Nat)} {G : Gh} {a : Act} {w : World},
    cnt listed.toList ≤ fuel → arunD P tt ops K n done rd σ → Sim P tt ops E n0 G0 w0 done rd σ listed pend al G a w → wpAny P .any ops (After E n0 G0 w0 K) fuel listed a w := by
  intro fuel
  induction fuel with
  | zero =>
    intro n done rd σ listed pend al G a w hc h S
    obtain ⟨n', done', rd', σ', pend', al', h', S', hf⟩ := saturate hap n h S
    have hr0 : Region.ready .any ops listed = [] := by
      rw [List.eq_nil_iff_forall_not_mem]
      intro i hi
      obtain ⟨h0, o, ho, _⟩ := mem_ready.1 hi
      have hlt : i < listed.size := by rw [S.size]; exact (Array.getElem?_eq_some_iff.1 ho).1
      have := cnt_zero (by omega) (getD_some hlt ((getD_lt hlt).symm.trans h0))
      cases this
    obtain ⟨hK, I⟩ := sim_end S' h' hf hr0
    exact ⟨hr0, rfl, σ', G, hK, I, S'.st⟩
  | succ fuel ih =>
    intro n done rd σ listed pend al G a w hc h S
    obtain ⟨n', done', rd', σ', pend', al', h', S', hf⟩ := saturate hap n h S
    refine ⟨fun hr0 => ?_, fun i hi => ?_⟩
    · obtain ⟨hK, I⟩ := sim_end S' h' hf hr0
      exact ⟨rfl, σ', G, hK, I, S'.st⟩
    · obtain ⟨h0, o, ho, hall⟩ := mem_ready.1 hi
      have hlt : i < listed.size := by rw [S.size]; exact (Array.getElem?_eq_some_iff.1 ho).1
      have h0' : listed.getD i false = false := (getD_lt hlt).symm.trans h0
      have hc' : cnt (listed.setIfInBounds i true).toList ≤ fuel := by
        have := cnt_set (getD_some hlt h0')
        rw [Array.toList_setIfInBounds]; omega
      have hpd := S'.reads hap ho hall
      by_cases hd : i ∈ done'
      · obtain ⟨hqq, r⟩ := S'.recs i o hd h0' ho
        rcases r with r | ⟨k, hk⟩
        · exact r.run ok S'.inv ho hpd (fun v I => ih hc' h' (S'.real hap ho hd h0' I S'.st fun j k hjk _ => (S'.als j k hjk).2.2.1))
        · obtain ⟨_, _, hk1, hk0, o', ho', _, r⟩ := S'.als i k hk
          rw [ho] at ho'; cases ho'
          refine r.run ok hk1 S'.inv ho hpd (fun G' w' v L hko I => ih hc' h' (S'.real hap ho hd h0' I ⟨S'.st.le, fun j hj => (hko j (by omega)).trans (S'.st.low j hj), S'.st.later.trans L⟩ fun j k' hjk hne => ?_))
          rw [hko k' fun e => hne (nodup_pair S'.nod (e ▸ hjk) hk)]
          exact (S'.als j k' hjk).2.2.1
      · unfold arunD at h'
        rw [hf] at h'
        have hx : (i, o) ∈ readyLouds done' 0 ops.toList := by
          have := mem_readyLouds (done := done') (j := i) (o := o) (l := ops.toList) (i := 0) (by simpa using ho) (by simpa using hd) (readyB_iff.2 fun e he hb => S'.lst _ (hall e he hb))
          simpa using this
        cases hl : readyLouds done' 0 ops.toList with
        | nil => rw [hl] at hx; cases hx
        | cons y r =>
          simp only [hl] at h'
          rw [hl] at hx
          have I1 : ∀ {σ1 : St}, Same σ' σ1 → Inv E G σ1 pend' a w := fun sm =>
            ⟨S'.inv.defers, by rw [sm.size]; exact S'.inv.tmps, fun s y hy => S'.inv.env s y (by rw [← sm.look]; exact hy), by rw [sm.hp]; exact S'.inv.h⟩
          rcases guardD_cases (eachD_mem h' hx) with ⟨σ1, sm, hg, h1⟩ | ⟨σ1, sm, ⟨j, want, oj, t, hg, hj, hjd, hlk⟩, hd1, h1⟩
          · have hw : Region.wanted o (yielded ops a.tmps) = true := by
              rcases hg with hg | ⟨j, want, oj, t, hg, hj, hjd, hlk⟩
              · have hg : o.guard = none := hg
                simp [Region.wanted, hg]
              · have hg : o.guard = some (j, want) := hg
                have : a.tmps.getD t undef = .bool want := (rep_lit (S'.inv.env _ _ hlk (hpd t (tmps_guard hg hj hjd)))).1
                simp [Region.wanted, hg, yielded_of hj hjd this]
            unfold wpOp
            simp only [ho]
            rw [if_pos hw]
            refine .inl (Oper.wp_mono (fun a' w' hh => ?_) (aop_sound ok (I1 sm) (fun t ht => hpd t (tmps_operand ht)) (loudD_form h1)))
            obtain ⟨σ2, G2, ⟨hrun, hp2, x2, he2, hkeep⟩, I2, L2⟩ := hh
            refine ih hc' hrun (S'.loud hap ho hd hall ?_ ?_ ?_ I2 (by rw [sm.hp] at L2; exact L2))
            · rw [he2, put_size]; exact sm.size
            · intro t ht; rw [he2]; exact (put_look ht).trans (sm.look t)
            · intro y hy hn; rw [he2, put_hp]; exact (hkeep y hy (by rw [sm.hp]; exact hn)).trans (by rw [sm.hp])
          · have hg : o.guard = some (j, want) := hg
            have hw : Region.wanted o (yielded ops a.tmps) = false := by
              cases hx : look t σ'.env with
              | none => rw [hx] at hlk; rcases hlk with hl | ⟨cs, hl⟩ <;> cases hl
              | some x => rw [hx] at hlk; exact notW_wanted hg hj hjd (S'.inv.env _ _ hx (hpd t (tmps_guard hg hj hjd))) hlk
            unfold wpOp
            simp only [ho]
            rw [if_neg (by simp [hw])]
            refine ih hc' h1 (S'.loud hap ho hd hall ?_ ?_ ?_ ((I1 sm).put (by unfold dstOk at hd1 ⊢; rw [sm.size]; exact hd1) undef_rep) (by rw [put_hp, sm.hp]; exact .refl _ _ _))
            · rw [put_size]; exact sm.size
            · intro t ht; exact (put_look ht).trans (sm.look t)
            · intro y hy hn; rw [put_hp, sm.hp]
end
/-- A drawn region, by its run in the order of what can be. -/
theorem arunDraw_of {P : Program} {B : Base} {tt : TT} {ops : Array Oper} {σ : St} {K : St → Prop} (ok : TTOk P tt) (hm : P.follows .mixedOrders = true) {n : Nat} (hap : apartB ops = true) (h : arunD P tt ops K n [] [] σ) : arunDraw P B tt ops σ K := by
  intro E G a w G0 w0 I O L id
  refine wp_region_any hm ?_
  obtain ⟨H1, L1⟩ := I.h.heap (w' := { w with drawn := w.drawn + 1 }) rfl rfl rfl rfl
  have I1 := I.world L1 H1
  refine sim_any ok hap ops.size (al := []) ?_ h ⟨I1, by simp, fun i hi => ?_, .nil, fun i o hi => (by cases hi), fun i k hi => (by cases hi), List.nodup_nil, fun t ht => (by cases ht), L.trans ⟨Nat.le_refl _, fun _ _ => rfl, L1⟩⟩
  · rw [Array.toList_replicate, cnt_rep]; exact Nat.le_refl _
  · simp [Array.getD] at hi
end Go.Ax
