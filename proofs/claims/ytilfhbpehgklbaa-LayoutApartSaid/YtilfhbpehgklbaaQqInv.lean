/- What an operation that does not fail was given. -/
import Derived.Test.YtilfhbpehgklbaaQqMake
set_option linter.unusedSimpArgs false
set_option linter.unusedVariables false
namespace Go.D

section
variable {ev : FuncId → List DV → Heap → Res DV} {old r : DV} {h h' : Heap} {m0 m1 m2 : Bool} {d0 d1 d2 : DV}

theorem no_ok {α : Type} {a : α} {h : Heap} (e : (Res.no : Res α) = .ok a h) : False := by simp at e
theorem no_pan {α : Type} {v : DV} {h : Heap} (e : (Res.no : Res α) = .pan v h) : False := by simp at e

theorem inv_mv (hc : compute ev .mv old [(m0, d0)] h = .ok r h') : r = hand (m0, d0) ∧ h' = h := by
  replace hc : (Res.ok (hand (m0, d0)) h : Res DV) = .ok r h' := hc
  simp at hc; exact ⟨hc.1.symm, hc.2.symm⟩

theorem inv_pick (hc : compute ev .pick old [(m0, d0), (m1, d1), (m2, d2)] h = .ok r h') : ∃ b, d0 = .sc (.bool b) ∧ r = (if b then hand (m1, d1) else hand (m2, d2)) ∧ h' = h := by
  cases d0 with
  | sc u =>
    cases u with
    | bool b =>
      replace hc : (Res.ok (if b then hand (m1, d1) else hand (m2, d2)) h : Res DV) = .ok r h' := hc
      simp only [Res.ok.injEq] at hc; exact ⟨b, rfl, hc.1.symm, hc.2.symm⟩
    | _ => exact (no_ok hc).elim
  | _ => exact (no_ok hc).elim

theorem inv_bin {op : BinOp} {b : Bool} (hc : compute ev (.bin op b) old [(m0, d0), (m1, d1)] h = .ok r h') :
    ∃ x y z, d0 = .sc x ∧ d1 = .sc y ∧ (if b then dbinB op x y else dbin op x y) = some z ∧ r = .sc z ∧ h' = h := by
  cases d0 with
  | sc x =>
    cases d1 with
    | sc y =>
      replace hc : (match (if b then dbinB op x y else dbin op x y) with | some v => (Res.ok (.sc v) h : Res DV) | none => .no) = .ok r h' := hc
      split at hc
      · rename_i z hz; simp at hc; exact ⟨x, y, z, rfl, rfl, hz, hc.1.symm, hc.2.symm⟩
      · simp at hc
    | _ => exact (no_ok hc).elim
  | _ => cases d1 <;> exact (no_ok hc).elim

theorem inv_eqA {ks : List Nat} {neg : Bool} (hc : compute ev (.eqA ks neg) old [(m0, d0), (m1, d1)] h = .ok r h') :
    ∃ x y b, d0 = .agg x ∧ d1 = .agg y ∧ eqL ks x y = some b ∧ r = .sc (.bool (if neg then !b else b)) ∧ h' = h := by
  cases d0 with
  | agg x =>
    cases d1 with
    | agg y =>
      replace hc : (match eqL ks x y with | some r => (Res.ok (.sc (.bool (if neg then !r else r))) h : Res DV) | none => .no) = .ok r h' := hc
      split at hc
      · rename_i b hz; simp only [Res.ok.injEq] at hc; exact ⟨x, y, b, rfl, rfl, hz, hc.1.symm, hc.2.symm⟩
      · simp at hc
    | _ => exact (no_ok hc).elim
  | _ => cases d1 <;> exact (no_ok hc).elim

theorem inv_un {op : UnOp} (hc : compute ev (.un op) old [(m0, d0)] h = .ok r h') : ∃ x z, d0 = .sc x ∧ dun op x = some z ∧ r = .sc z ∧ h' = h := by
  cases d0 with
  | sc x =>
    replace hc : (match dun op x with | some v => (Res.ok (.sc v) h : Res DV) | none => .no) = .ok r h' := hc
    split at hc
    · rename_i z hz; simp at hc; exact ⟨x, z, rfl, hz, hc.1.symm, hc.2.symm⟩
    · simp at hc
  | _ => exact (no_ok hc).elim

theorem inv_bx {n : Nat} (hc : compute ev (.bx n) old [(m0, d0)] h = .ok r h') : (cellsOf (hand (m0, d0))).length = n ∧ r = .box (cellsOf (hand (m0, d0))) ∧ h' = h := by
  replace hc : (if (cellsOf (hand (m0, d0))).length = n then (Res.ok (.box (cellsOf (hand (m0, d0)))) h : Res DV) else .no) = .ok r h' := hc
  split at hc
  · rename_i hz; simp at hc; exact ⟨hz, hc.1.symm, hc.2.symm⟩
  · simp at hc

theorem inv_hp {n : Nat} (hc : compute ev (.hp n) old [(m0, d0)] h = .ok r h') : (cellsOf (hand (m0, d0))).length = n ∧ r = .ptr h.length 0 ∧ h' = h ++ [cellsOf (hand (m0, d0))] := by
  replace hc : (if (cellsOf (hand (m0, d0))).length = n then (Res.ok (.ptr h.length 0) (h ++ [cellsOf (hand (m0, d0))]) : Res DV) else .no) = .ok r h' := hc
  split at hc
  · rename_i hz; simp at hc; exact ⟨hz, hc.1.symm, hc.2.symm⟩
  · simp at hc

theorem inv_faB {p off : Nat} (hc : compute ev (.faB p off) old [(m0, d0)] h = .ok r h') : ∃ cs, d0 = .box cs ∧ r = .lref p off ∧ h' = h := by
  cases d0 with
  | box cs =>
    replace hc : (Res.ok (.lref p off) h : Res DV) = .ok r h' := hc
    simp at hc; exact ⟨cs, rfl, hc.1.symm, hc.2.symm⟩
  | _ => exact (no_ok hc).elim

theorem inv_fa {off : Nat} (hc : compute ev (.fa off) old [(m0, d0)] h = .ok r h') :
    h' = h ∧ ((∃ b o, d0 = .ptr b o ∧ r = .ptr b (o + off)) ∨ (∃ cs, d0 = .cptr cs ∧ r = .cptr (cs.drop off)) ∨ ∃ p o, d0 = .lref p o ∧ r = .lref p (o + off)) := by
  cases d0 with
  | ptr b o =>
    replace hc : (Res.ok (.ptr b (o + off)) h : Res DV) = .ok r h' := hc
    simp only [Res.ok.injEq] at hc; exact ⟨hc.2.symm, .inl ⟨b, o, rfl, hc.1.symm⟩⟩
  | cptr cs =>
    replace hc : (Res.ok (.cptr (cs.drop off)) h : Res DV) = .ok r h' := hc
    simp only [Res.ok.injEq] at hc; exact ⟨hc.2.symm, .inr (.inl ⟨cs, rfl, hc.1.symm⟩)⟩
  | lref p o =>
    replace hc : (Res.ok (.lref p (o + off)) h : Res DV) = .ok r h' := hc
    simp only [Res.ok.injEq] at hc; exact ⟨hc.2.symm, .inr (.inr ⟨p, o, rfl, hc.1.symm⟩)⟩
  | _ => exact (no_ok hc).elim

theorem noBox_inv {d : DV} {h h' : Heap} {r : DV} (hc : noBox d h = .ok r h') : r = d ∧ h' = h ∧ ∀ c, d ≠ .box c := by
  cases d <;> simp [noBox] at hc ⊢ <;> exact ⟨hc.1.symm, hc.2.symm⟩

theorem inv_ldB2 {p n : Nat} {ag take : Bool} (hc : compute ev (.ldB p n ag take) old [(m0, d0), (m1, d1)] h = .ok r h') :
    ∃ q o cs, d0 = .lref q o ∧ d1 = .box cs ∧ q = p ∧ o + n ≤ cs.length ∧ h' = h ∧
      ((take = true ∧ r = ofCells ag ((cs.drop o).take n) ∧ ∀ c, ofCells ag ((cs.drop o).take n) ≠ .box c) ∨ (take = false ∧ r = strip (ofCells ag ((cs.drop o).take n)))) := by
  cases d0 with
  | lref q o =>
    cases d1 with
    | box cs =>
      replace hc : (if q = p ∧ o + n ≤ cs.length then (if take then noBox (ofCells ag ((cs.drop o).take n)) h else (Res.ok (strip (ofCells ag ((cs.drop o).take n))) h : Res DV)) else .no) = .ok r h' := hc
      split at hc
      · rename_i hz
        cases take with
        | true =>
          simp only [if_true] at hc
          obtain ⟨h1, h2, h3⟩ := noBox_inv hc
          exact ⟨q, o, cs, rfl, rfl, hz.1, hz.2, h2, .inl ⟨rfl, h1, h3⟩⟩
        | false =>
          simp only [Bool.false_eq_true, if_false, Res.ok.injEq] at hc
          exact ⟨q, o, cs, rfl, rfl, hz.1, hz.2, hc.2.symm, .inr ⟨rfl, hc.1.symm⟩⟩
      · simp at hc
    | _ => exact (no_ok hc).elim
  | _ => cases d1 <;> exact (no_ok hc).elim

theorem inv_ldB1 {p n : Nat} {ag take : Bool} (hc : compute ev (.ldB p n ag take) old [(m0, d0)] h = .ok r h') :
    ∃ cs, d0 = .box cs ∧ n ≤ cs.length ∧ h' = h ∧
      ((take = true ∧ r = ofCells ag ((cs.drop 0).take n) ∧ ∀ c, ofCells ag ((cs.drop 0).take n) ≠ .box c) ∨ (take = false ∧ r = strip (ofCells ag (cs.take n)))) := by
  cases d0 with
  | box cs =>
    replace hc : (if n ≤ cs.length then (if take then noBox (ofCells ag ((cs.drop 0).take n)) h else (Res.ok (strip (ofCells ag (cs.take n))) h : Res DV)) else .no) = .ok r h' := hc
    split at hc
    · rename_i hz
      cases take with
      | true =>
        simp only [if_true] at hc
        obtain ⟨h1, h2, h3⟩ := noBox_inv hc
        exact ⟨cs, rfl, hz, h2, .inl ⟨rfl, h1, h3⟩⟩
      | false =>
        simp only [Bool.false_eq_true, if_false, Res.ok.injEq] at hc
        exact ⟨cs, rfl, hz, hc.2.symm, .inr ⟨rfl, hc.1.symm⟩⟩
    · simp at hc
  | _ => exact (no_ok hc).elim

theorem inv_stB {p n : Nat} (hc : compute ev (.stB p n) old [(m0, d0), (m1, d1)] h = .ok r h') :
    ∃ cs o, old = .box cs ∧ o + n ≤ cs.length ∧ (cellsOf (hand (m1, d1))).length = n ∧ r = .box (setCells cs o (cellsOf (hand (m1, d1)))) ∧ h' = h ∧ ((∃ q, d0 = .lref q o ∧ q = p) ∨ (∃ c, d0 = .box c ∧ o = 0)) := by
  cases d0 with
  | lref q o =>
    cases old with
    | box cs =>
      replace hc : (if q = p ∧ o + n ≤ cs.length ∧ (cellsOf (hand (m1, d1))).length = n then (Res.ok (.box (setCells cs o (cellsOf (hand (m1, d1))))) h : Res DV) else .no) = .ok r h' := hc
      split at hc
      · rename_i hz; simp only [Res.ok.injEq] at hc
        exact ⟨cs, o, rfl, hz.2.1, hz.2.2, hc.1.symm, hc.2.symm, .inl ⟨q, rfl, hz.1⟩⟩
      · simp at hc
    | _ => exact (no_ok hc).elim
  | box c =>
    cases old with
    | box cs =>
      replace hc : (if n ≤ cs.length ∧ (cellsOf (hand (m1, d1))).length = n then (Res.ok (.box (setCells cs 0 (cellsOf (hand (m1, d1))))) h : Res DV) else .no) = .ok r h' := hc
      split at hc
      · rename_i hz; simp only [Res.ok.injEq] at hc
        exact ⟨cs, 0, rfl, by simpa using hz.1, hz.2, hc.1.symm, hc.2.symm, .inr ⟨c, rfl, rfl⟩⟩
      · simp at hc
    | _ => exact (no_ok hc).elim
  | _ => exact (no_ok hc).elim

theorem inv_ldP {n : Nat} {ag take : Bool} (hc : compute ev (.ldP n ag take) old [(m0, d0)] h = .ok r h') :
    (∃ b o cs, d0 = .ptr b o ∧ h[b]? = some cs ∧ o + n ≤ cs.length ∧
      ((take = true ∧ r = ofCells ag ((cs.drop o).take n) ∧ (∀ c, ofCells ag ((cs.drop o).take n) ≠ .box c) ∧ h' = h.set b (setCells cs o (stripL ((cs.drop o).take n)))) ∨ (take = false ∧ r = strip (ofCells ag ((cs.drop o).take n)) ∧ h' = h))) ∨
    (∃ cs, d0 = .cptr cs ∧ n ≤ cs.length ∧ r = strip (ofCells ag (cs.take n)) ∧ h' = h) := by
  cases d0 with
  | ptr b o =>
    replace hc : (match h[b]? with
      | some cs => if o + n ≤ cs.length then (if take then noBox (ofCells ag ((cs.drop o).take n)) (h.set b (setCells cs o (stripL ((cs.drop o).take n)))) else (Res.ok (strip (ofCells ag ((cs.drop o).take n))) h : Res DV)) else .no
      | none => .no) = .ok r h' := hc
    split at hc
    · rename_i cs hb
      split at hc
      · rename_i hz
        cases take with
        | true =>
          simp only [if_true] at hc
          obtain ⟨h1, h2, h3⟩ := noBox_inv hc
          exact .inl ⟨b, o, cs, rfl, hb, hz, .inl ⟨rfl, h1, h3, h2⟩⟩
        | false =>
          simp only [Bool.false_eq_true, if_false, Res.ok.injEq] at hc
          exact .inl ⟨b, o, cs, rfl, hb, hz, .inr ⟨rfl, hc.1.symm, hc.2.symm⟩⟩
      · simp at hc
    · simp at hc
  | cptr cs =>
    replace hc : (if n ≤ cs.length then (Res.ok (strip (ofCells ag (cs.take n))) h : Res DV) else .no) = .ok r h' := hc
    split at hc
    · rename_i hz; simp only [Res.ok.injEq] at hc; exact .inr ⟨cs, rfl, hz, hc.1.symm, hc.2.symm⟩
    · simp at hc
  | _ => exact (no_ok hc).elim

theorem inv_stP {n : Nat} (hc : compute ev (.stP n) old [(m0, d0), (m1, d1)] h = .ok r h') :
    ∃ b o cs, d0 = .ptr b o ∧ h[b]? = some cs ∧ o + n ≤ cs.length ∧ (cellsOf (hand (m1, d1))).length = n ∧ r = undefD ∧ h' = h.set b (setCells cs o (cellsOf (hand (m1, d1)))) := by
  cases d0 with
  | ptr b o =>
    replace hc : (match h[b]? with
      | some cs => if o + n ≤ cs.length ∧ (cellsOf (hand (m1, d1))).length = n then (Res.ok undefD (h.set b (setCells cs o (cellsOf (hand (m1, d1))))) : Res DV) else .no
      | none => .no) = .ok r h' := hc
    split at hc
    · rename_i cs hb
      split at hc
      · rename_i hz; simp only [Res.ok.injEq] at hc
        exact ⟨b, o, cs, rfl, hb, hz.1, hz.2, hc.1.symm, hc.2.symm⟩
      · simp at hc
    · simp at hc
  | _ => exact (no_ok hc).elim

theorem inv_ia {sz : Nat} (hc : compute ev (.ia sz) old [(m0, d0), (m1, d1)] h = .ok r h') :
    h' = h ∧ ∃ k i, d1 = .sc (.int k i) ∧ 0 ≤ i ∧ ((∃ m xs x, d0 = .sl m sz xs ∧ xs[i.toNat]? = some x ∧ r = .cptr (cellsOf x)) ∨ (∃ b off len cap ag, d0 = .hsl b off len cap sz ag ∧ i < (len : Int) ∧ r = .ptr b (off + i.toNat * sz))) := by
  cases d0 with
  | sl m sz' xs =>
    cases d1 with
    | sc u =>
      cases u with
      | int k i =>
        replace hc : (if sz' = sz ∧ 0 ≤ i then (match xs[i.toNat]? with | some x => (Res.ok (.cptr (cellsOf x)) h : Res DV) | none => .no) else .no) = .ok r h' := hc
        split at hc
        · rename_i hz
          obtain ⟨rfl, hz⟩ := hz
          split at hc
          · rename_i x hx; simp only [Res.ok.injEq] at hc
            exact ⟨hc.2.symm, k, i, rfl, hz, .inl ⟨m, xs, x, rfl, hx, hc.1.symm⟩⟩
          · simp at hc
        · simp at hc
      | _ => exact (no_ok hc).elim
    | _ => exact (no_ok hc).elim
  | hsl b off len cap sz' ag =>
    cases d1 with
    | sc u =>
      cases u with
      | int k i =>
        replace hc : (if sz' = sz ∧ 0 ≤ i ∧ i < (len : Int) then (Res.ok (.ptr b (off + i.toNat * sz)) h : Res DV) else .no) = .ok r h' := hc
        split at hc
        · rename_i hz
          obtain ⟨rfl, hz, hz'⟩ := hz
          simp only [Res.ok.injEq] at hc
          exact ⟨hc.2.symm, k, i, rfl, hz, .inr ⟨b, off, len, cap, ag, rfl, hz', hc.1.symm⟩⟩
        · simp at hc
      | _ => exact (no_ok hc).elim
    | _ => exact (no_ok hc).elim
  | _ => cases d1 <;> exact (no_ok hc).elim

theorem inv_iaB {p len sz : Nat} (hc : compute ev (.iaB p len sz) old [(m0, d0), (m1, d1)] h = .ok r h') :
    ∃ cs k i, d0 = .box cs ∧ d1 = .sc (.int k i) ∧ 0 ≤ i ∧ i < (len : Int) ∧ r = .lref p (i.toNat * sz) ∧ h' = h := by
  cases d0 with
  | box cs =>
    cases d1 with
    | sc u =>
      cases u with
      | int k i =>
        replace hc : (if 0 ≤ i ∧ i < (len : Int) then (Res.ok (.lref p (i.toNat * sz)) h : Res DV) else .no) = .ok r h' := hc
        split at hc
        · rename_i hz; simp only [Res.ok.injEq] at hc; exact ⟨cs, k, i, rfl, rfl, hz.1, hz.2, hc.1.symm, hc.2.symm⟩
        · simp at hc
      | _ => exact (no_ok hc).elim
    | _ => exact (no_ok hc).elim
  | _ => cases d1 <;> exact (no_ok hc).elim

theorem inv_iaA {len sz : Nat} (hc : compute ev (.iaA len sz) old [(m0, d0), (m1, d1)] h = .ok r h') :
    h' = h ∧ ∃ k i, d1 = .sc (.int k i) ∧ 0 ≤ i ∧ i < (len : Int) ∧
      ((∃ p o, d0 = .lref p o ∧ r = .lref p (o + i.toNat * sz)) ∨ (∃ b o, d0 = .ptr b o ∧ r = .ptr b (o + i.toNat * sz)) ∨ (∃ cs, d0 = .cptr cs ∧ r = .cptr (cs.drop (i.toNat * sz)))) := by
  cases d1 with
  | sc u =>
    cases u with
    | int k i =>
      cases d0 with
      | lref p o =>
        replace hc : (if 0 ≤ i ∧ i < (len : Int) then (Res.ok (.lref p (o + i.toNat * sz)) h : Res DV) else .no) = .ok r h' := hc
        split at hc
        · rename_i hz; simp only [Res.ok.injEq] at hc; exact ⟨hc.2.symm, k, i, rfl, hz.1, hz.2, .inl ⟨p, o, rfl, hc.1.symm⟩⟩
        · simp at hc
      | ptr b o =>
        replace hc : (if 0 ≤ i ∧ i < (len : Int) then (Res.ok (.ptr b (o + i.toNat * sz)) h : Res DV) else .no) = .ok r h' := hc
        split at hc
        · rename_i hz; simp only [Res.ok.injEq] at hc; exact ⟨hc.2.symm, k, i, rfl, hz.1, hz.2, .inr (.inl ⟨b, o, rfl, hc.1.symm⟩)⟩
        · simp at hc
      | cptr cs =>
        replace hc : (if 0 ≤ i ∧ i < (len : Int) then (Res.ok (.cptr (cs.drop (i.toNat * sz))) h : Res DV) else .no) = .ok r h' := hc
        split at hc
        · rename_i hz; simp only [Res.ok.injEq] at hc; exact ⟨hc.2.symm, k, i, rfl, hz.1, hz.2, .inr (.inr ⟨cs, rfl, hc.1.symm⟩)⟩
        · simp at hc
      | _ => exact (no_ok hc).elim
    | _ => cases d0 <;> exact (no_ok hc).elim
  | _ => cases d0 <;> exact (no_ok hc).elim

theorem inv_ix {len sz : Nat} {ag : Bool} (hc : compute ev (.ix len sz ag) old [(m0, d0), (m1, d1)] h = .ok r h') :
    ∃ cs k i, d0 = .agg cs ∧ d1 = .sc (.int k i) ∧ 0 ≤ i ∧ i < (len : Int) ∧ i.toNat * sz + sz ≤ cs.length ∧ r = strip (ofCells ag ((cs.drop (i.toNat * sz)).take sz)) ∧ h' = h := by
  cases d0 with
  | agg cs =>
    cases d1 with
    | sc u =>
      cases u with
      | int k i =>
        replace hc : (if 0 ≤ i ∧ i < (len : Int) ∧ i.toNat * sz + sz ≤ cs.length then (Res.ok (strip (ofCells ag ((cs.drop (i.toNat * sz)).take sz))) h : Res DV) else .no) = .ok r h' := hc
        split at hc
        · rename_i hz; simp only [Res.ok.injEq] at hc; exact ⟨cs, k, i, rfl, rfl, hz.1, hz.2.1, hz.2.2, hc.1.symm, hc.2.symm⟩
        · simp at hc
      | _ => exact (no_ok hc).elim
    | _ => exact (no_ok hc).elim
  | _ => cases d1 <;> exact (no_ok hc).elim

theorem inv_ixS (hc : compute ev .ixS old [(m0, d0), (m1, d1)] h = .ok r h') :
    ∃ st k i b, d0 = .sc (.string st) ∧ d1 = .sc (.int k i) ∧ 0 ≤ i ∧ st[i.toNat]? = some b ∧ r = .sc (.int .u8 b.toNat) ∧ h' = h := by
  cases d0 with
  | sc v =>
    cases v with
    | string st =>
      cases d1 with
      | sc u =>
        cases u with
        | int k i =>
          replace hc : (if 0 ≤ i then (match st[i.toNat]? with | some b => (Res.ok (.sc (.int .u8 b.toNat)) h : Res DV) | none => .no) else .no) = .ok r h' := hc
          split at hc
          · rename_i hz
            split at hc
            · rename_i b hb; simp only [Res.ok.injEq] at hc; exact ⟨st, k, i, b, rfl, rfl, hz, hb, hc.1.symm, hc.2.symm⟩
            · simp at hc
          · simp at hc
        | _ => exact (no_ok hc).elim
      | _ => exact (no_ok hc).elim
    | _ => cases d1 <;> exact (no_ok hc).elim
  | _ => cases d1 <;> exact (no_ok hc).elim

theorem inv_fld {off n : Nat} {ag : Bool} (hc : compute ev (.fld off n ag) old [(m0, d0)] h = .ok r h') :
    ∃ cs, d0 = .agg cs ∧ off + n ≤ cs.length ∧ r = strip (ofCells ag ((cs.drop off).take n)) ∧ h' = h := by
  cases d0 with
  | agg cs =>
    replace hc : (if off + n ≤ cs.length then (Res.ok (strip (ofCells ag ((cs.drop off).take n))) h : Res DV) else .no) = .ok r h' := hc
    split at hc
    · rename_i hz; simp only [Res.ok.injEq] at hc; exact ⟨cs, rfl, hz, hc.1.symm, hc.2.symm⟩
    · simp at hc
  | _ => exact (no_ok hc).elim

theorem inv_ext {k : Nat} (hc : compute ev (.ext k) old [(m0, d0)] h = .ok r h') : ∃ cs x, d0 = .tup cs ∧ cs[k]? = some x ∧ r = strip x ∧ h' = h := by
  cases d0 with
  | tup cs =>
    replace hc : (match cs[k]? with | some x => (Res.ok (strip x) h : Res DV) | none => .no) = .ok r h' := hc
    split at hc
    · rename_i x hx; simp only [Res.ok.injEq] at hc; exact ⟨cs, x, rfl, hx, hc.1.symm, hc.2.symm⟩
    · simp at hc
  | _ => exact (no_ok hc).elim

theorem inv_build {zero : List DV} {ps : List (Nat × Nat)} {xs : List (Bool × DV)} (hc : compute ev (.build zero ps) old xs h = .ok r h') : ∃ cs, fillC zero ps (xs.map hand) = some cs ∧ r = .agg cs ∧ h' = h := by
  replace hc : (match fillC zero ps (xs.map hand) with | some cs => (Res.ok (.agg cs) h : Res DV) | none => .no) = .ok r h' := hc
  split at hc
  · rename_i cs hx; simp only [Res.ok.injEq] at hc; exact ⟨cs, hx, hc.1.symm, hc.2.symm⟩
  · simp at hc

theorem inv_buildSl {sz : Nat} {zero : List DV} {ps : List Nat} {xs : List (Bool × DV)} (hc : compute ev (.buildSl sz zero ps) old xs h = .ok r h') :
    xs.all (fun x => (cellsOf x.2).length == sz) = true ∧ ∃ l, fillEl zero ps (stripL (xs.map (·.2))) = some l ∧ r = .sl (if l.isEmpty then .full else .own) sz l ∧ h' = h := by
  replace hc : (if xs.all (fun x => (cellsOf x.2).length == sz) then (match fillEl zero ps (stripL (xs.map (·.2))) with | some l => (Res.ok (.sl (if l.isEmpty then .full else .own) sz l) h : Res DV) | none => .no) else .no) = .ok r h' := hc
  split at hc
  · rename_i hz
    split at hc
    · rename_i l hx; simp only [Res.ok.injEq] at hc; exact ⟨hz, l, hx, hc.1.symm, hc.2.symm⟩
    · simp at hc
  · simp at hc

theorem inv_mkSl {sz bytes : Nat} {ag : Bool} {zero : List DV} (hc : compute ev (.mkSl sz bytes ag zero) old [(m0, d0), (m1, d1)] h = .ok r h') :
    ∃ k k' n, d0 = .sc (.int k n) ∧ d1 = .sc (.int k' n) ∧ 0 ≤ n ∧ n * (bytes + sz + 1) ≤ (room : Int) ∧ r = .hsl h.length 0 n.toNat n.toNat sz ag ∧ h' = h ++ [(List.replicate n.toNat zero).flatten] := by
  cases d0 with
  | sc v =>
    cases v with
    | int k n =>
      cases d1 with
      | sc u =>
        cases u with
        | int k' m =>
          replace hc : (if 0 ≤ n ∧ n = m ∧ n * (bytes + sz + 1) ≤ (room : Int) then (Res.ok (.hsl h.length 0 n.toNat n.toNat sz ag) (h ++ [(List.replicate n.toNat zero).flatten]) : Res DV) else .no) = .ok r h' := hc
          split at hc
          · rename_i hz
            obtain ⟨h0, rfl, h1⟩ := hz
            simp only [Res.ok.injEq] at hc
            exact ⟨k, k', n, rfl, rfl, h0, h1, hc.1.symm, hc.2.symm⟩
          · simp at hc
        | _ => exact (no_ok hc).elim
      | _ => exact (no_ok hc).elim
    | _ => cases d1 <;> exact (no_ok hc).elim
  | _ => cases d1 <;> exact (no_ok hc).elim

theorem inv_slc {sz : Nat} {lo hi mx : Bool} {xs : List (Bool × DV)} (hc : compute ev (.slc sz lo hi mx) old ((m0, d0) :: xs) h = .ok r h') :
    ∃ m ys l r1 u r2 mm rl ru rm, d0 = .sl m sz ys ∧ takeOpt lo xs = some (l, r1) ∧ takeOpt hi r1 = some (u, r2) ∧ takeOpt mx r2 = some (mm, []) ∧ bounds ys.length l u mm = some (rl, ru, rm) ∧
      r = .sl (if rm = some ru then .full else .view) sz ((ys.drop rl).take (ru - rl)) ∧ h' = h := by
  cases d0 with
  | sl m sz' ys =>
    replace hc : (match takeOpt lo xs with
      | none => (Res.no : Res DV)
      | some (l, r1) =>
      match takeOpt hi r1 with
      | none => .no
      | some (u, r2) =>
      match takeOpt mx r2 with
      | none => .no
      | some (m, r3) =>
      match r3, bounds ys.length l u m with
      | [], some (l, u, m) => if sz' = sz then .ok (.sl (if m = some u then .full else .view) sz ((ys.drop l).take (u - l))) h else .no
      | _, _ => .no) = .ok r h' := hc
    split at hc
    · simp at hc
    · rename_i l r1 e1
      split at hc
      · simp at hc
      · rename_i u r2 e2
        split at hc
        · simp at hc
        · rename_i mm r3 e3
          split at hc
          · rename_i rl ru rm e4
            split at hc
            · rename_i hsz; subst hsz
              simp only [Res.ok.injEq] at hc
              exact ⟨m, ys, l, r1, u, r2, mm, rl, ru, rm, rfl, e1, e2, e3, e4, hc.1.symm, hc.2.symm⟩
            · simp at hc
          · simp at hc
  | _ => cases xs <;> exact (no_ok hc).elim

theorem inv_slS {lo hi : Bool} {xs : List (Bool × DV)} (hc : compute ev (.slS lo hi) old ((m0, d0) :: xs) h = .ok r h') :
    ∃ st l r1 u rl ru rm, d0 = .sc (.string st) ∧ takeOpt lo xs = some (l, r1) ∧ takeOpt hi r1 = some (u, []) ∧ bounds st.size l u none = some (rl, ru, rm) ∧ r = .sc (.string (st.extract rl ru)) ∧ h' = h := by
  cases d0 with
  | sc v =>
    cases v with
    | string st =>
      replace hc : (match takeOpt lo xs with
        | none => (Res.no : Res DV)
        | some (l, r1) =>
        match takeOpt hi r1 with
        | none => .no
        | some (u, r2) =>
        match r2, bounds st.size l u none with
        | [], some (l, u, _) => .ok (.sc (.string (st.extract l u))) h
        | _, _ => .no) = .ok r h' := hc
      split at hc
      · simp at hc
      · rename_i l r1 e1
        split at hc
        · simp at hc
        · rename_i u r2 e2
          split at hc
          · rename_i rl ru rm e4
            simp only [Res.ok.injEq] at hc
            exact ⟨st, l, r1, u, rl, ru, rm, rfl, e1, e2, e4, hc.1.symm, hc.2.symm⟩
          · simp at hc
    | _ => cases xs <;> exact (no_ok hc).elim
  | _ => cases xs <;> exact (no_ok hc).elim

theorem inv_app {sz bytes : Nat} (hc : compute ev (.app sz bytes) old [(m0, d0), (m1, d1)] h = .ok r h') :
    ∃ m xs ys, d0 = .sl m sz xs ∧ elems h d1 = some (sz, ys) ∧ (xs.length + ys.length) * (bytes + 1) ≤ room ∧ m ≠ .view ∧ (m = .own → m0 = true) ∧ r = .sl (appMode m ys.isEmpty) sz (xs ++ ys) ∧ h' = h := by
  cases d0 with
  | sl m sz' xs =>
    replace hc : (match elems h d1 with
      | some (sz'', ys) =>
        if sz' = sz ∧ sz'' = sz ∧ (xs.length + ys.length) * (bytes + 1) ≤ room then
          (match m with
          | .view => (Res.no : Res DV)
          | .full => .ok (.sl (appMode .full ys.isEmpty) sz (xs ++ ys)) h
          | .own => if m0 then .ok (.sl .own sz (xs ++ ys)) h else .no)
        else .no
      | none => .no) = .ok r h' := hc
    split at hc
    · rename_i sz'' ys he
      split at hc
      · rename_i hz
        obtain ⟨rfl, rfl, hz⟩ := hz
        cases m with
        | view => simp at hc
        | full =>
          simp only [Res.ok.injEq] at hc
          exact ⟨.full, xs, ys, rfl, he, hz, by simp, by simp, hc.1.symm, hc.2.symm⟩
        | own =>
          simp only at hc
          split at hc
          · rename_i hm; simp only [Res.ok.injEq] at hc
            exact ⟨.own, xs, ys, rfl, he, hz, by simp, fun _ => hm, hc.1.symm, hc.2.symm⟩
          · simp at hc
      · simp at hc
    · simp at hc
  | _ => exact (no_ok hc).elim

theorem inv_appH {sz bytes : Nat} {ag : Bool} (hc : compute ev (.appH sz bytes ag) old [(m0, d0), (m1, d1)] h = .ok r h') :
    ∃ ys, d0 = .sl .full sz [] ∧ elems h d1 = some (sz, ys) ∧ ys.length * (bytes + 1) ≤ room ∧ ys.all (fun x => (cellsOf x).length == sz) = true ∧
      ((ys = [] ∧ r = .sl .view sz [] ∧ h' = h) ∨ (ys ≠ [] ∧ r = .hsl h.length 0 ys.length ys.length sz ag ∧ h' = h ++ [ys.flatMap cellsOf])) := by
  cases d0 with
  | sl m sz' xs =>
    cases m with
    | full =>
      cases xs with
      | nil =>
        replace hc : (match elems h d1 with
          | some (sz'', ys) =>
            if sz' = sz ∧ sz'' = sz ∧ ys.length * (bytes + 1) ≤ room ∧ ys.all (fun x => (cellsOf x).length == sz) then
              if ys.isEmpty then (Res.ok (.sl .view sz []) h : Res DV) else .ok (.hsl h.length 0 ys.length ys.length sz ag) (h ++ [ys.flatMap cellsOf])
            else .no
          | none => .no) = .ok r h' := hc
        split at hc
        · rename_i sz'' ys he
          split at hc
          · rename_i hz
            obtain ⟨rfl, rfl, hz, ha⟩ := hz
            refine ⟨ys, rfl, he, hz, ha, ?_⟩
            split at hc
            · rename_i hy
              simp only [Res.ok.injEq] at hc
              exact .inl ⟨List.isEmpty_iff.1 hy, hc.1.symm, hc.2.symm⟩
            · rename_i hy
              simp only [Res.ok.injEq] at hc
              exact .inr ⟨fun e => hy (by simp [e]), hc.1.symm, hc.2.symm⟩
          · simp at hc
        · simp at hc
      | cons x xs => exact (no_ok hc).elim
    | _ => cases xs <;> exact (no_ok hc).elim
  | _ => exact (no_ok hc).elim

theorem inv_cpy {sz : Nat} (hc : compute ev (.cpy sz) old [(m0, d0), (m1, d1)] h = .ok r h') :
    ∃ b off len cap ag ys cs, d0 = .hsl b off len cap sz ag ∧ elems h d1 = some (sz, ys) ∧ h[b]? = some cs ∧ off + len * sz ≤ cs.length ∧ (ys.take len).all (fun x => (cellsOf x).length == sz) = true ∧
      r = .sc (.int .i64 (min ys.length len : Nat)) ∧ h' = h.set b (setCells cs off ((ys.take len).flatMap cellsOf)) := by
  cases d0 with
  | hsl b off len cap sz' ag =>
    replace hc : (match elems h d1, h[b]? with
      | some (sz'', ys), some cs =>
        if sz' = sz ∧ sz'' = sz ∧ off + len * sz ≤ cs.length ∧ (ys.take len).all (fun x => (cellsOf x).length == sz) then
          (Res.ok (.sc (.int .i64 (min ys.length len : Nat))) (h.set b (setCells cs off ((ys.take len).flatMap cellsOf))) : Res DV)
        else .no
      | _, _ => .no) = .ok r h' := hc
    split at hc
    · rename_i sz'' ys cs he hb
      split at hc
      · rename_i hz
        obtain ⟨rfl, rfl, hz1, hz2⟩ := hz
        simp only [Res.ok.injEq] at hc
        exact ⟨b, off, len, cap, ag, ys, cs, rfl, he, hb, hz1, hz2, hc.1.symm, hc.2.symm⟩
      · simp at hc
    · simp at hc
  | _ => exact (no_ok hc).elim

theorem inv_len (hc : compute ev .len old [(m0, d0)] h = .ok r h') :
    h' = h ∧ ((∃ m sz xs, d0 = .sl m sz xs ∧ r = .sc (.int .i64 xs.length)) ∨ ∃ b off len cap sz ag, d0 = .hsl b off len cap sz ag ∧ r = .sc (.int .i64 len)) := by
  cases d0 with
  | sl m sz xs =>
    replace hc : (Res.ok (.sc (.int .i64 xs.length)) h : Res DV) = .ok r h' := hc
    simp only [Res.ok.injEq] at hc; exact ⟨hc.2.symm, .inl ⟨m, sz, xs, rfl, hc.1.symm⟩⟩
  | hsl b off len cap sz ag =>
    replace hc : (Res.ok (.sc (.int .i64 len)) h : Res DV) = .ok r h' := hc
    simp only [Res.ok.injEq] at hc; exact ⟨hc.2.symm, .inr ⟨b, off, len, cap, sz, ag, rfl, hc.1.symm⟩⟩
  | _ => exact (no_ok hc).elim

theorem inv_lenS (hc : compute ev .lenS old [(m0, d0)] h = .ok r h') : ∃ st, d0 = .sc (.string st) ∧ r = .sc (.int .i64 st.size) ∧ h' = h := by
  cases d0 with
  | sc v =>
    cases v with
    | string st =>
      replace hc : (Res.ok (.sc (.int .i64 st.size)) h : Res DV) = .ok r h' := hc
      simp only [Res.ok.injEq] at hc; exact ⟨st, rfl, hc.1.symm, hc.2.symm⟩
    | _ => exact (no_ok hc).elim
  | _ => exact (no_ok hc).elim

theorem inv_lenA {n : Nat} (hc : compute ev (.lenA n) old [(m0, d0)] h = .ok r h') : r = .sc (.int .i64 n) ∧ h' = h := by
  replace hc : (Res.ok (.sc (.int .i64 n)) h : Res DV) = .ok r h' := hc
  simp only [Res.ok.injEq] at hc; exact ⟨hc.1.symm, hc.2.symm⟩

theorem inv_max (hc : compute ev .max old [(m0, d0), (m1, d1)] h = .ok r h') : ∃ k k' x y, d0 = .sc (.int k x) ∧ d1 = .sc (.int k' y) ∧ r = .sc (.int k (if y > x then y else x)) ∧ h' = h := by
  cases d0 with
  | sc v =>
    cases v with
    | int k x =>
      cases d1 with
      | sc u =>
        cases u with
        | int k' y =>
          replace hc : (Res.ok (.sc (.int k (if y > x then y else x))) h : Res DV) = .ok r h' := hc
          simp only [Res.ok.injEq] at hc; exact ⟨k, k', x, y, rfl, rfl, hc.1.symm, hc.2.symm⟩
        | _ => exact (no_ok hc).elim
      | _ => exact (no_ok hc).elim
    | _ => cases d1 <;> exact (no_ok hc).elim
  | _ => cases d1 <;> exact (no_ok hc).elim

theorem inv_min (hc : compute ev .min old [(m0, d0), (m1, d1)] h = .ok r h') : ∃ k k' x y, d0 = .sc (.int k x) ∧ d1 = .sc (.int k' y) ∧ r = .sc (.int k (if y < x then y else x)) ∧ h' = h := by
  cases d0 with
  | sc v =>
    cases v with
    | int k x =>
      cases d1 with
      | sc u =>
        cases u with
        | int k' y =>
          replace hc : (Res.ok (.sc (.int k (if y < x then y else x))) h : Res DV) = .ok r h' := hc
          simp only [Res.ok.injEq] at hc; exact ⟨k, k', x, y, rfl, rfl, hc.1.symm, hc.2.symm⟩
        | _ => exact (no_ok hc).elim
      | _ => exact (no_ok hc).elim
    | _ => cases d1 <;> exact (no_ok hc).elim
  | _ => cases d1 <;> exact (no_ok hc).elim

theorem inv_cvI {k : IntKind} (hc : compute ev (.cvI k) old [(m0, d0)] h = .ok r h') : ∃ k' n, d0 = .sc (.int k' n) ∧ r = .sc (.int k (k.wrap n)) ∧ h' = h := by
  cases d0 with
  | sc v =>
    cases v with
    | int k' n =>
      replace hc : (Res.ok (.sc (.int k (k.wrap n))) h : Res DV) = .ok r h' := hc
      simp only [Res.ok.injEq] at hc; exact ⟨k', n, rfl, hc.1.symm, hc.2.symm⟩
    | _ => exact (no_ok hc).elim
  | _ => exact (no_ok hc).elim

theorem inv_cvS (hc : compute ev .cvS old [(m0, d0)] h = .ok r h') : ∃ st, d0 = .sc (.string st) ∧ r = .sc (.string st) ∧ h' = h := by
  cases d0 with
  | sc v =>
    cases v with
    | string st =>
      replace hc : (Res.ok (.sc (.string st)) h : Res DV) = .ok r h' := hc
      simp only [Res.ok.injEq] at hc; exact ⟨st, rfl, hc.1.symm, hc.2.symm⟩
    | _ => exact (no_ok hc).elim
  | _ => exact (no_ok hc).elim

theorem inv_cvSB (hc : compute ev .cvSB old [(m0, d0)] h = .ok r h') : ∃ st, d0 = .sc (.string st) ∧ r = .sl .view 1 (ofBytes st.data.toList) ∧ h' = h := by
  cases d0 with
  | sc v =>
    cases v with
    | string st =>
      replace hc : (Res.ok (.sl .view 1 (ofBytes st.data.toList)) h : Res DV) = .ok r h' := hc
      simp only [Res.ok.injEq] at hc; exact ⟨st, rfl, hc.1.symm, hc.2.symm⟩
    | _ => exact (no_ok hc).elim
  | _ => exact (no_ok hc).elim

theorem inv_cvBS (hc : compute ev .cvBS old [(m0, d0)] h = .ok r h') : ∃ ys l, elemsSl h d0 = some (1, ys) ∧ bytesOf ys = some l ∧ r = .sc (.string ⟨l.toArray⟩) ∧ h' = h := by
  replace hc : (match elemsSl h d0 with
    | some (1, ys) => match bytesOf ys with | some l => (Res.ok (.sc (.string ⟨l.toArray⟩)) h : Res DV) | none => .no
    | _ => .no) = .ok r h' := hc
  split at hc
  · rename_i ys he
    split at hc
    · rename_i l hl; simp only [Res.ok.injEq] at hc; exact ⟨ys, l, he, hl, hc.1.symm, hc.2.symm⟩
    · simp at hc
  · simp at hc

theorem lref_any {xs : List (Bool × DV)} (h : (xs.any (fun x => match x.2 with | .lref .. => true | _ => false)) = false) : ∀ x ∈ xs, ∀ p off, x.2 ≠ .lref p off := by
  intro x hx p off e
  rw [List.any_eq_false] at h
  exact h x hx (by rw [e])

theorem inv_mkFn {fn : Fn} {n : Nat} {xs : List (Bool × DV)} (hc : compute ev (.mkFn fn n) old xs h = .ok r h') :
    (∀ x ∈ xs, ∀ p off, x.2 ≠ .lref p off) ∧ r = .fn fn (stripL ((xs.map (·.2)).take n)) (stripL ((xs.map (·.2)).drop n)) ∧ h' = h := by
  replace hc : (if xs.any (fun x => match x.2 with | .lref .. => true | _ => false) then .no else (Res.ok (.fn fn (stripL ((xs.map (·.2)).take n)) (stripL ((xs.map (·.2)).drop n))) h : Res DV)) = .ok r h' := hc
  split at hc
  · simp at hc
  · rename_i hz; simp only [Res.ok.injEq] at hc
    exact ⟨lref_any (by simpa using hz), hc.1.symm, hc.2.symm⟩

theorem inv_call {f : FuncId} {xs : List (Bool × DV)} {q : Res DV} (hq : q ≠ .no) (hc : compute ev (.call f) old xs h = q) :
    (∀ x ∈ xs, ∀ p off, x.2 ≠ .lref p off) ∧ callP ev f (stripL (xs.map (·.2))) h = q := by
  replace hc : (if xs.any (fun x => match x.2 with | .lref .. => true | _ => false) then .no else callP ev f (stripL (xs.map (·.2))) h) = q := hc
  split at hc
  · exact absurd hc.symm hq
  · rename_i hz
    exact ⟨lref_any (by simpa using hz), hc⟩

theorem inv_callV {xs : List (Bool × DV)} {q : Res DV} (hq : q ≠ .no) (hc : compute ev .callV old ((m0, d0) :: xs) h = q) :
    ∃ f first cap, d0 = .fn (.func f) first cap ∧ (∀ x ∈ xs, ∀ p off, x.2 ≠ .lref p off) ∧ callP ev f (first ++ stripL (xs.map (·.2)) ++ cap) h = q := by
  cases d0 with
  | fn fn first cap =>
    cases fn with
    | func f =>
      replace hc : (if xs.any (fun x => match x.2 with | .lref .. => true | _ => false) then .no else callP ev f (first ++ stripL (xs.map (·.2)) ++ cap) h) = q := hc
      split at hc
      · exact absurd hc.symm hq
      · rename_i hz
        exact ⟨f, first, cap, rfl, lref_any (by simpa using hz), hc⟩
    | _ => cases xs <;> exact absurd hc.symm hq
  | _ => cases xs <;> exact absurd hc.symm hq

theorem inv_mkIf {t : TypeId} (hc : compute ev (.mkIf t) old [(m0, d0)] h = .ok r h') : (∀ p off, d0 ≠ .lref p off) ∧ r = .ifc t (hand (m0, d0)) ∧ h' = h := by
  cases d0 with
  | lref p off => exact (no_ok hc).elim
  | _ =>
    refine ⟨by simp, ?_⟩
    replace hc : (Res.ok (.ifc t (hand (m0, _))) h : Res DV) = .ok r h' := hc
    simp only [Res.ok.injEq] at hc; exact ⟨hc.1.symm, hc.2.symm⟩

end
end Go.D
