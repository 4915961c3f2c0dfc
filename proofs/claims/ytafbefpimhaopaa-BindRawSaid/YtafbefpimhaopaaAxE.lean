/- Ax, part E: loads, addresses, parts: the machine does what part C says. No project text. -/
import Derived.Test.YtafbefpimhaopaaAxD
set_option linter.unusedVariables false
set_option linter.unusedSimpArgs false
set_option linter.unnecessarySimpa false
set_option linter.unusedSectionVars false
namespace Go.Ax

def keysOf (fb : Key → Option Box) : AV → List Key
  | .ptr (.l i) _ => match fb (.l i) with
    | some (.alias b) => [.l i, .o b]
    | _ => [.l i]
  | .ptr (.o b) _ => [.o b]
  | .rptr k _ _ _ => [.l k]
  | .row k _ => [.l k]
  | _ => []
def Boxed (fb : Key → Option Box) (G : Gh) (w : World) (X : AV) : Prop := ∀ k, k ∈ keysOf fb X → ∀ bx b, fb k = some bx → G.at k = some b → BoxRel G w b (G.capOf k) bx

section
variable {P : Program} {tt : TT} {fb : Key → Option Box} {G : Gh} {w : World}

theorem box_sound {T : TypeId} {ty : TyI} (ht : TyOk P T ty) {b off c : Nat} {bx : Box} {x : AV} (hb : BoxRel G w b c bx) (h : (boxQ ty off bx).holds fb (· = x)) :
    ∃ u, (loadVar T ⟨b, off, none⟩).run P w = .ok u w ∧ Rep G w x u := by
  cases bx with
  | cells cs =>
    obtain ⟨C, e, hh, hL, h1, ha⟩ := hb
    have hc := (cellsAt_block0 hh).drop off
    rw [Nat.zero_add] at hc
    exact take_sound ht (fun y hy => h1 y (List.mem_of_mem_drop hy)) (ha.drop off) hc h
  | _ => simp [boxQ, QRes.holds] at h

theorem load_sound {T : TypeId} {ty : TyI} (ht : TyOk P T ty) {X x : AV} {v : Value} (hX : Rep G w X v) (hb : Boxed fb G w X) (h : (loadQ ty fb X).holds fb (· = x)) :
    ∃ u, (Instr.loadAt T v).run P w = .ok u w ∧ Rep G w x u := by
  unfold loadQ at h
  split at h
  · rename_i cs
    cases (show RepD G.L w (.eptr cs) v from hX) with
    | eptr h1 hr hl hc =>
      simpa [Instr.loadAt, Instr.sureAddr] using take_sound ht h1 (hr.all2.imp fun _ _ => rep1_ofD) hc h
  · rename_i i off
    obtain ⟨b, hk, rfl⟩ := (show Rep1 G w (.ptr (.l i) off) v from hX)
    split at h
    · rename_i cs hf
      have hB := hb (.l i) (by simp [keysOf, hf]) _ b hf hk
      simpa [Instr.loadAt, Instr.sureAddr] using box_sound (fb := fb) ht hB h
    · rename_i b' hf
      have hB := hb (.l i) (by simp [keysOf, hf]) _ b hf hk
      obtain rfl : b' = b := hB
      obtain ⟨bx, hf2, h⟩ := h
      have hB2 := hb (.o b') (by simp [keysOf, hf]) _ b' hf2 rfl
      simpa [Instr.loadAt, Instr.sureAddr] using box_sound (fb := fb) ht hB2 h
    · simp [QRes.holds] at h
  · rename_i b off
    cases (show RepD G.L w (.ptr (.o b) off) v from hX) with
    | ptr =>
      obtain ⟨bx, hf2, h⟩ := h
      have hB2 := hb (.o b) (by simp [keysOf]) _ b hf2 rfl
      simpa [Instr.loadAt, Instr.sureAddr] using box_sound (fb := fb) ht hB2 h
  · rename_i k sz i off
    obtain ⟨b, hk, rfl⟩ := (show Rep1 G w (.rptr k sz i off) v from hX)
    split at h
    · rename_i sz' items hf
      obtain ⟨hz, y, ⟨h0, hy⟩, h⟩ := h
      obtain rfl : sz = sz' := Nat.eq_of_beq_eq_true hz
      obtain ⟨C, D, e, hh, hL, hs, h1, ha, _⟩ := hb (.l k) (by simp [keysOf]) _ b hf hk
      obtain ⟨r, hr⟩ := flat_get hs hy
      have hd := ha.drop (i * sz)
      have hy' : items[i]? = some y := by simpa using hy
      rw [show ((i : Int)).toNat = i by simp] at hr
      rw [hr] at hd
      obtain ⟨y1, y2, hC, h2, _⟩ := hd.splitL
      have hc := (cellsAt_block hh).drop (i * sz)
      rw [hC, Nat.zero_add] at hc
      have hc2 := hc.left.drop off
      simpa [Instr.loadAt, Instr.sureAddr] using take_sound ht (fun z hz => h1 z (cells_mem_flat (List.mem_of_getElem? hy') (List.mem_of_mem_drop hz))) (h2.drop off) hc2 h
    · simp [QRes.holds] at h
  · simp [QRes.holds] at h

theorem fieldAddr_sound (ok : TTOk P tt) {T : TypeId} {ty : TyI} (ht : TyOk P T ty) {f : Nat} {X x : AV} {v : Value} (hX : Rep G w X v) (h : (fieldAddrQ tt ty f X).holds fb (· = x)) :
    ∃ u, (Instr.fieldAt T v f).run P w = .ok u w ∧ Rep G w x u := by
  obtain ⟨d, hd, -, hs⟩ := ht.under
  unfold fieldAddrQ at h
  split at h
  · rename_i fs hsh
    rw [hsh] at hs
    obtain ⟨F, rfl, hF⟩ := hs
    split at h
    · rename_i o u hfs
      split at h
      · rename_i tu htu
        obtain ⟨hpos, h⟩ := h
        have hpos : tu.size ≠ 0 := by have := Nat.le_of_ble_eq_true hpos; omega
        have hf : ∃ g, F[f]? = some g ∧ g.offset = o ∧ g.type = u := by
          rw [← hF, List.getElem?_map, Option.map_eq_some_iff] at hfs
          obtain ⟨g, hg, he⟩ := hfs
          simp at he
          exact ⟨g, by simpa using hg, he.1, he.2⟩
        obtain ⟨g, hg, rfl, rfl⟩ := hf
        have hsz := (ok _ _ htu).sizeOf (P := P) w
        split at h
        · rename_i cs
          cases (show RepD G.L w (.eptr cs) v from hX) with
          | eptr h1 hr hl hc =>
            rename_i b o vs
            obtain ⟨hle, rfl⟩ := h
            have hle := Nat.le_of_ble_eq_true hle
            have hlen := hr.all2.length
            refine ⟨.pointer (some ⟨b, o + g.offset, none⟩), by simp [Instr.fieldAt, run_underlying hd, hg, Instr.sureAddr, fieldPlace, hsz, hpos, addr_add], rep_ofD ?_⟩
            refine .eptr (vs := vs.drop g.offset) (fun y hy => h1 y (List.mem_of_mem_drop hy)) (.of_all2 (hr.all2.drop _)) (by simp; omega) (hc.drop _)
        · rename_i k off
          simp only [QRes.holds] at h; subst h
          cases k with
          | l i =>
            obtain ⟨b, hk, rfl⟩ := (show Rep1 G w (.ptr (.l i) off) v from hX)
            exact ⟨.pointer (some ⟨b, off + g.offset, none⟩), by simp [Instr.fieldAt, run_underlying hd, hg, Instr.sureAddr, fieldPlace, hsz, hpos, addr_add], (⟨b, hk, rfl⟩ : Rep1 G w (.ptr (.l i) (off + g.offset)) _)⟩
          | o b =>
            cases (show RepD G.L w (.ptr (.o b) off) v from hX) with
            | ptr => exact ⟨.pointer (some ⟨b, off + g.offset, none⟩), by simp [Instr.fieldAt, run_underlying hd, hg, Instr.sureAddr, fieldPlace, hsz, hpos, addr_add], rep_ofD .ptr⟩
        · rename_i k sz i off
          simp only [QRes.holds] at h; subst h
          obtain ⟨b, hk, rfl⟩ := (show Rep1 G w (.rptr k sz i off) v from hX)
          exact ⟨.pointer (some ⟨b, i * sz + off + g.offset, none⟩), by simp [Instr.fieldAt, run_underlying hd, hg, Instr.sureAddr, fieldPlace, hsz, hpos, addr_add], (⟨b, hk, by rw [Nat.add_assoc]⟩ : Rep1 G w (.rptr k sz i (off + g.offset)) _)⟩
        · simp [QRes.holds] at h
      · simp [QRes.holds] at h
    · simp [QRes.holds] at h
  · simp [QRes.holds] at h

theorem part_sound {u : TypeId} {tu : TyI} (ht : TyOk P u tu) {cs : List AV} {vs : List Value} (h1 : ∀ y, y ∈ cs → y.one = true) (hr : All2 (Rep1 G w) cs vs) {o : Nat} {x : AV} (h : (partQ tu cs o).holds fb (· = x)) :
    ∃ v, (part u vs.toArray o).run P w = .ok v w ∧ Rep G w x v := by
  unfold partQ at h
  cases ha : tu.isAgg with
  | true =>
    simp only [ha, cond_true, QRes.holds] at h
    obtain ⟨hle, rfl⟩ := h
    refine ⟨.agg ((vs.drop o).take tu.size).toArray, ?_, rep_agg (fun y hy => h1 y (List.mem_of_mem_drop (List.mem_of_mem_take hy))) ((hr.drop o).take _)⟩
    simp [part, ht.isAgg, ha, ht.sizeOf]
  | false =>
    simp only [ha, cond_false] at h
    split at h
    · rename_i y hy
      simp only [QRes.holds] at h; subst h
      obtain ⟨v, hv, hyv⟩ := hr.get hy
      refine ⟨v, by simp [part, ht.isAgg, ha, hv], ?_⟩
      rw [rep_one (h1 _ (List.mem_of_getElem? hy))]; exact hyv
    · simp [QRes.holds] at h

theorem field_sound (ok : TTOk P tt) {T : TypeId} {ty : TyI} (ht : TyOk P T ty) {f : Nat} {X x : AV} {v : Value} (hX : Rep G w X v) (h : (fieldQ tt ty f X).holds fb (· = x)) :
    ∃ u, (Instr.field T v f).run P w = .ok u w ∧ Rep G w x u := by
  obtain ⟨d, hd, -, hs⟩ := ht.under
  unfold fieldQ at h
  split at h
  · rename_i cs
    rw [rep_eq (by simp)] at hX
    obtain ⟨h1, vs, rfl, hr⟩ := hX
    split at h
    · rename_i fs hsh
      rw [hsh] at hs
      obtain ⟨F, rfl, hF⟩ := hs
      split at h
      · rename_i o u hfs
        split at h
        · rename_i tu htu
          rw [← hF, List.getElem?_map, Option.map_eq_some_iff] at hfs
          obtain ⟨g, hg, he⟩ := hfs
          simp at he
          obtain ⟨rfl, rfl⟩ := he
          obtain ⟨u, hu, hx⟩ := part_sound (ok _ _ htu) h1 hr h
          have hg' : F[f]? = some g := by simpa using hg
          exact ⟨u, by simp [Instr.field, run_underlying hd, hg', asAgg, hu], hx⟩
        · simp [QRes.holds] at h
      · simp [QRes.holds] at h
    · simp [QRes.holds] at h
  · simp [QRes.holds] at h
end
end Go.Ax
