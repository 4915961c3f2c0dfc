/- Ax, part F: indexes, operators, slices of slices: the machine does what part C says. No project text. -/
import Derived.Test.YtafbefpimhaopaaAxE
set_option linter.unusedVariables false
set_option linter.unusedSimpArgs false
set_option linter.unnecessarySimpa false
set_option linter.unusedSectionVars false
namespace Go.Ax

section
variable {P : Program} {tt : TT} {fb : Key → Option Box} {G : Gh} {w : World}

theorem nat_blt {a b : Nat} (h : Nat.blt a b = true) : a < b := by simpa [Nat.blt_eq] using h
theorem slice_rep {sz : Nat} {t : Tok} {items : List AV} {v : Value} (h : Rep G w (.slice sz t items) v) : ∃ A n c, v = .slice A n c ∧ RepD G.L w (.slice sz .dead items) (.slice A n c) := by
  have h : Rep1 G w (.slice sz t items) v := h
  cases t with
  | loc i => obtain ⟨A, n, c, rfl, _, hr⟩ := h; exact ⟨A, n, c, rfl, hr⟩
  | _ =>
    cases (show RepD G.L w _ v from h) with
    | slice hn hc hm hsz h1 hr hA ht => exact ⟨_, _, _, rfl, .slice hn hc hm hsz h1 hr hA trivial⟩

theorem indexAddr_sound (ok : TTOk P tt) {T : TypeId} {ty : TyI} (ht : TyOk P T ty) {k0 : IntKind} {n : Int} {X x : AV} {v : Value} (hX : Rep G w X v) (hb : Boxed fb G w X) (h : (indexAddrQ tt ty fb n X).holds fb (· = x)) :
    ∃ u, (Instr.indexAt T v (.int k0 n)).run P w = .ok u w ∧ Rep G w x u := by
  obtain ⟨d, hd, -, hs⟩ := ht.under
  unfold indexAddrQ at h
  split at h
  · rename_i e hsh
    rw [hsh] at hs
    simp only [shapeOk] at hs; subst hs
    split at h
    · rename_i te hte
      have hsz := (ok _ _ hte).sizeOf (P := P) w
      split at h
      · rename_i sz t items
        obtain ⟨A, m, c, rfl, hr⟩ := slice_rep hX
        cases hr with
        | slice hn hc hm hs1 h1 hr hA htk =>
          rename_i vs
          obtain ⟨he, hp, y, ⟨h0, hy⟩, rfl⟩ := h
          obtain rfl : sz = te.size := Nat.eq_of_beq_eq_true he
          have hlt : n.toNat < items.length := (List.getElem?_eq_some_iff.1 hy).1
          obtain ⟨b, o, rfl, hL, hcell⟩ := hA (by omega)
          have hlt' : n < (m : Int) := by omega
          refine ⟨.pointer (some ⟨b, o + n.toNat * te.size, none⟩), ?_, rep_ofD ?_⟩
          · simp [Instr.indexAt, asIntOf, run_underlying hd, hlt', h0, hsz, addr_add]
          · obtain ⟨r, hfr⟩ := flat_get hs1 hy
            have hd2 := hr.all2.drop (n.toNat * te.size)
            rw [hfr] at hd2
            obtain ⟨y1, y2, hC, h2, _⟩ := hd2.splitL
            have hc2 := hcell.drop (n.toNat * te.size)
            rw [hC] at hc2
            have hl1 := h2.length
            have hl2 : (vs.drop (n.toNat * te.size)).length = y1.length + y2.length := by rw [hC]; simp
            simp at hl2
            have hpos : 0 < y1.length := by rw [← hl1, hs1 y (List.mem_of_getElem? hy)]; exact nat_blt hp
            exact .eptr (fun z hz => h1 z (cells_mem_flat (List.mem_of_getElem? hy) hz)) (.of_all2 h2) (by omega) hc2.left
      · rename_i k len
        obtain ⟨b, hk, hlc, hcm, rfl⟩ := (show Rep1 G w (.row k len) v from hX)
        split at h
        · rename_i sz items hf
          obtain ⟨he, h0, hlt, rfl⟩ := h
          obtain rfl : sz = te.size := Nat.eq_of_beq_eq_true he
          have h0 := of_decide_eq_true h0
          have hlt := of_decide_eq_true hlt
          exact ⟨.pointer (some ⟨b, n.toNat * te.size, none⟩), by simp [Instr.indexAt, asIntOf, run_underlying hd, hlt, h0, hsz, addr_add], (⟨b, hk, by simp⟩ : Rep1 G w (.rptr k te.size n.toNat 0) _)⟩
        · rename_i sz items hf
          obtain ⟨he, hp, hle, y, ⟨h0, hy⟩, rfl⟩ := h
          obtain rfl : sz = te.size := Nat.eq_of_beq_eq_true he
          have hle := Nat.le_of_ble_eq_true hle
          obtain ⟨C, hs1, h1, hr, hL, hcell⟩ := hb (.l k) (by simp [keysOf]) _ b hf hk
          have hlt : n.toNat < items.length := (List.getElem?_eq_some_iff.1 hy).1
          refine ⟨.pointer (some ⟨b, n.toNat * te.size, none⟩), by simp [Instr.indexAt, asIntOf, run_underlying hd, h0, show n < (len : Int) by omega, hsz, addr_add], rep_ofD ?_⟩
          obtain ⟨r, hfr⟩ := flat_get hs1 hy
          have hd2 := hr.all2.drop (n.toNat * te.size)
          rw [hfr] at hd2
          obtain ⟨y1, y2, hC, h2, _⟩ := hd2.splitL
          have hc2 := hcell.drop (n.toNat * te.size)
          rw [hC, Nat.zero_add] at hc2
          have hl1 := h2.length
          have hl2 : (C.drop (n.toNat * te.size)).length = y1.length + y2.length := by rw [hC]; simp
          simp at hl2
          have hpos : 0 < y1.length := by rw [← hl1, hs1 y (List.mem_of_getElem? hy)]; exact nat_blt hp
          exact .eptr (fun z hz => h1 z (cells_mem_flat (List.mem_of_getElem? hy) hz)) (.of_all2 h2) (by omega) hc2.left
        · simp [QRes.holds] at h
      · simp [QRes.holds] at h
    · simp [QRes.holds] at h
  · rename_i len e hsh
    rw [hsh] at hs
    simp only [shapeOk] at hs; subst hs
    split at h
    · rename_i te hte
      have hsz := (ok _ _ hte).sizeOf (P := P) w
      split at h
      · rename_i k off
        obtain ⟨h0, hlt, rfl⟩ := h
        have h0 := of_decide_eq_true h0
        have hlt := of_decide_eq_true hlt
        cases k with
        | l i =>
          obtain ⟨b, hk, rfl⟩ := (show Rep1 G w (.ptr (.l i) off) v from hX)
          exact ⟨.pointer (some ⟨b, off + n.toNat * te.size, none⟩), by simp [Instr.indexAt, asIntOf, run_underlying hd, hlt, h0, hsz, addr_add, Instr.sureAddr], (⟨b, hk, rfl⟩ : Rep1 G w (.ptr (.l i) _) _)⟩
        | o b =>
          cases (show RepD G.L w (.ptr (.o b) off) v from hX) with
          | ptr => exact ⟨.pointer (some ⟨b, off + n.toNat * te.size, none⟩), by simp [Instr.indexAt, asIntOf, run_underlying hd, hlt, h0, hsz, addr_add, Instr.sureAddr], rep_ofD .ptr⟩
      · simp [QRes.holds] at h
    · simp [QRes.holds] at h
  · simp [QRes.holds] at h

theorem getElem?_bytes (s : ByteArray) (n : Nat) (h : n < s.size) : s[n]? = some (s.data.toList.getD n 0) := by
  have h1 : n < s.data.toList.length := by simpa using h
  rw [List.getD_eq_getElem?_getD, List.getElem?_eq_getElem h1]
  simp [h]
  rfl
theorem index_sound (ok : TTOk P tt) {T : TypeId} {ty : TyI} (ht : TyOk P T ty) {k0 : IntKind} {n : Int} {X x : AV} {v : Value} (hX : Rep G w X v) (h : (indexQ tt ty n X).holds fb (· = x)) :
    ∃ u, (Instr.index T v (.int k0 n)).run P w = .ok u w ∧ Rep G w x u := by
  obtain ⟨d, hd, -, hs⟩ := ht.under
  unfold indexQ at h
  split at h
  · rename_i s
    obtain ⟨rfl, -⟩ := rep_lit hX
    split at h
    · rename_i hsh
      rw [hsh] at hs
      simp only [shapeOk] at hs; subst hs
      obtain ⟨h0, hlt, rfl⟩ := h
      have h0 := of_decide_eq_true h0
      have hlt := of_decide_eq_true hlt
      have hb := getElem?_bytes s n.toNat (by omega)
      exact ⟨.int .u8 (byteAt s n.toNat), by simp [Instr.index, asIntOf, run_underlying hd, h0, hb, byteAt], lit_rep rfl⟩
    · simp [QRes.holds] at h
  · rename_i cs
    rw [rep_eq (by simp)] at hX
    obtain ⟨h1, vs, rfl, hr⟩ := hX
    split at h
    · rename_i len e hsh
      rw [hsh] at hs
      simp only [shapeOk] at hs; subst hs
      split at h
      · rename_i te hte
        obtain ⟨h0, hlt, h⟩ := h
        have h0 := of_decide_eq_true h0
        have hlt := of_decide_eq_true hlt
        obtain ⟨u, hu, hx⟩ := part_sound (ok _ _ hte) h1 hr h
        have hsz := (ok _ _ hte).sizeOf (P := P) w
        exact ⟨u, by simp [Instr.index, asIntOf, run_underlying hd, h0, hlt, hsz, hu], hx⟩
      · simp [QRes.holds] at h
    · simp [QRes.holds] at h
  · simp [QRes.holds] at h

theorem fitsA_vals {zs : List Value} : ∀ {xs : List AV} {vs : List Value}, All2 (Rep1 G w) xs vs → fitsA zs xs = true → fitsV zs vs = true := by
  induction zs with
  | nil => intro xs vs h hf; cases h with
    | nil => rfl
    | cons => simp [fitsA] at hf
  | cons z zs ih =>
    intro xs vs h hf
    cases h with
    | nil => simp [fitsA] at hf
    | cons hx ht =>
      unfold fitsA at hf
      split at hf
      · rename_i e; cases e
      · rename_i e1 e2
        cases e1; cases e2
        obtain ⟨rfl, -⟩ := rep_lit hx
        simp only [Bool.and_eq_true] at hf
        simp only [fitsV, hf.1, ih ht hf.2, Bool.and_self]
      · simp at hf
theorem cellsEq_vals {xs ys : List AV} {vs us : List Value} {r : Bool} (hx : All2 (Rep1 G w) xs vs) (hy : All2 (Rep1 G w) ys us) (h : cellsEq xs ys = some r) : valsEq vs us = some r := by
  induction hx generalizing ys us r with
  | nil => cases hy with
    | nil => simpa [cellsEq, valsEq] using h
    | cons => simp [cellsEq] at h
  | cons h1 _ ih => cases hy with
    | nil => simp [cellsEq] at h
    | cons h2 t2 =>
      unfold cellsEq at h
      split at h
      · rename_i e1 e2; simp at e1
      · rename_i a b c d e1 e2
        simp only [List.cons.injEq] at e1 e2
        obtain ⟨rfl, rfl⟩ := e1
        obtain ⟨rfl, rfl⟩ := e2
        cases (show RepD G.L w (.lit a) _ from h1)
        cases (show RepD G.L w (.lit c) _ from h2)
        split at h
        · rename_i p q hp hq
          simp only [Option.some.injEq] at h
          simp [valsEq, hp, ih t2 hq, h]
        · simp at h
      · simp at h
end
end Go.Ax
