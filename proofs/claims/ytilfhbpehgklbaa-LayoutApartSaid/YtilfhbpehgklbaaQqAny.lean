/- A region whose order is drawn: the order of the text stands for every other. -/
import Derived.Test.YtilfhbpehgklbaaQqSwap
import Derived.Test.YtilfhbpehgklbaaQqCode
set_option linter.unusedSimpArgs false
set_option linter.unusedVariables false
namespace Go.D

section
variable {P : Program} {F : Fr} {E : Entry} {G : Ghost} {hw : HW} {ew : EW} {bx : Nat → Option Nat} {a : Act} {w : World} {s : St} {ev : FuncId → List DV → Heap → Res DV}

/-- What an operation waits for, by whatever road, as bits. -/
def ancMask (acc : List Nat) (o : Oper) : Nat :=
  o.after.toList.foldl (fun m e => if Region.binds .any e then m ||| (2 ^ e.on) ||| acc.getD e.on 0 else m) 0
def ancL : List Oper → List Nat → List Nat
  | [], acc => acc
  | o :: r, acc => ancL r (acc ++ [ancMask acc o])
def ancs (os : Array Oper) : List Nat := ancL os.toList []

theorem ancMask_bit {acc : List Nat} {o : Oper} {i : Nat} (h : (ancMask acc o).testBit i = true) : ∃ e ∈ o.after, Region.binds .any e = true ∧ (e.on = i ∨ (acc.getD e.on 0).testBit i = true) := by
  have key : ∀ (l : List Edge) (m : Nat), (l.foldl (fun m e => if Region.binds .any e then m ||| (2 ^ e.on) ||| acc.getD e.on 0 else m) m).testBit i = true →
      m.testBit i = true ∨ ∃ e ∈ l, Region.binds .any e = true ∧ (e.on = i ∨ (acc.getD e.on 0).testBit i = true) := by
    intro l
    induction l with
    | nil => intro m h; exact .inl h
    | cons e l ih =>
      intro m h
      rw [List.foldl_cons] at h
      rcases ih _ h with h1 | ⟨e', he', h1⟩
      · by_cases hb : Region.binds .any e = true
        · rw [if_pos hb, Nat.testBit_or, Nat.testBit_or, Nat.testBit_two_pow] at h1
          simp only [Bool.or_eq_true, decide_eq_true_eq] at h1
          rcases h1 with (h1 | h1) | h1
          · exact .inl h1
          · exact .inr ⟨e, by simp, hb, .inl h1⟩
          · exact .inr ⟨e, by simp, hb, .inr h1⟩
        · rw [if_neg hb] at h1; exact .inl h1
      · exact .inr ⟨e', by simp [he'], h1⟩
  rcases key _ 0 h with h1 | ⟨e, he, h1⟩
  · simp at h1
  · exact ⟨e, by simpa using he, h1⟩

theorem ancL_prefix : ∀ (l : List Oper) (acc : List Nat), ∃ r, ancL l acc = acc ++ r
  | [], acc => ⟨[], by simp [ancL]⟩
  | o :: l, acc => by
    obtain ⟨r, hr⟩ := ancL_prefix l (acc ++ [ancMask acc o])
    exact ⟨ancMask acc o :: r, by rw [ancL, hr]; simp⟩

theorem ancL_get : ∀ (l : List Oper) (acc : List Nat) (k : Nat) (o : Oper), l[k]? = some o → (ancL l acc)[acc.length + k]? = some (ancMask ((ancL l acc).take (acc.length + k)) o)
  | [], _, _, _, h => by simp at h
  | o' :: l, acc, 0, o, h => by
    simp at h; subst h
    obtain ⟨r, hr⟩ := ancL_prefix l (acc ++ [ancMask acc o'])
    rw [ancL, hr]
    simp
  | o' :: l, acc, k + 1, o, h => by
    simp at h
    have := ancL_get l (acc ++ [ancMask acc o']) k o h
    rw [ancL]
    simp only [List.length_append, List.length_cons, List.length_nil] at this
    have e : acc.length + (0 + 1) + k = acc.length + (k + 1) := by omega
    rw [e] at this
    exact this

theorem ancs_get {os : Array Oper} {j : Nat} {o : Oper} (h : os[j]? = some o) : (ancs os)[j]? = some (ancMask ((ancs os).take j) o) := by
  have := ancL_get os.toList [] j o (by simpa using h)
  simpa [ancs] using this

/-- Whatever an operation waits for is listed, if what it waits for at first hand is. -/
theorem anc_listed {os : Array Oper} {listed : Array Bool} (hsz : listed.size = os.size) (hcl : ∀ k o, os[k]? = some o → listed.getD k false = true → ∀ e ∈ o.after, Region.binds .any e = true → listed.getD e.on false = true) :
    ∀ (j : Nat) (o : Oper), os[j]? = some o → (∀ e ∈ o.after, Region.binds .any e = true → listed.getD e.on false = true) → ∀ i, ((ancs os).getD j 0).testBit i = true → listed.getD i false = true := by
  intro j
  induction j using Nat.strongRecOn with
  | _ j ih =>
    intro o ho hall i hi
    rw [List.getD_eq_getElem?_getD, ancs_get ho, Option.getD_some] at hi
    obtain ⟨e, he, hb, h1⟩ := ancMask_bit hi
    have hl := hall e he hb
    rcases h1 with rfl | h1
    · exact hl
    · rw [List.getD_eq_getElem?_getD, List.getElem?_take] at h1
      split at h1
      · rename_i hlt
        have hlt2 : e.on < os.size := by
          rw [← hsz]
          rcases Nat.lt_or_ge e.on listed.size with h' | h'
          · exact h'
          · simp [Array.getElem?_eq_none h'] at hl
        have ho2 : os[e.on]? = some os[e.on] := Array.getElem?_eq_getElem hlt2
        exact ih e.on hlt _ ho2 (hcl _ _ ho2 hl) i (by rw [List.getD_eq_getElem?_getD]; exact h1)
      · simp at h1

def backward (os : Array Oper) (j : Nat) : Bool :=
  match os[j]? with
  | some o => o.after.all fun e => !Region.binds .any e || decide (e.on < j)
  | none => false

def okAny (os : Array Oper) (A : List Nat) (B : List Nat) : List (Nat × IOp) → Bool
  | [] => true
  | x :: r => bx1 x.2 B && backward os x.1 && r.all (fun y => apart x y || (A.getD y.1 0).testBit x.1) && okAny os A B r

theorem okAny_mem {os : Array Oper} {A B : List Nat} : ∀ {l : List (Nat × IOp)}, okAny os A B l = true → ∀ x ∈ l, bx1 x.2 B = true ∧ backward os x.1 = true
  | [], _, x, hx => by simp at hx
  | y :: l, h, x, hx => by
    simp only [okAny, Bool.and_eq_true] at h
    rcases List.mem_cons.1 hx with rfl | hx
    · exact h.1.1
    · exact okAny_mem h.2 x hx

theorem okAny_drop {os : Array Oper} {A B : List Nat} {y : Nat × IOp} {post : List (Nat × IOp)} : ∀ {pre : List (Nat × IOp)}, okAny os A B (pre ++ y :: post) = true →
    okAny os A B (pre ++ post) = true ∧ ∀ x ∈ pre, apart x y = true ∨ (A.getD y.1 0).testBit x.1 = true
  | [], h => by
    simp only [List.nil_append, okAny, Bool.and_eq_true] at h
    exact ⟨h.2, by simp⟩
  | x :: pre, h => by
    simp only [List.cons_append, okAny, Bool.and_eq_true, List.all_eq_true, Bool.or_eq_true] at h
    obtain ⟨h1, h2⟩ := okAny_drop h.2
    refine ⟨?_, fun z hz => ?_⟩
    · simp only [List.cons_append, okAny, Bool.and_eq_true, List.all_eq_true, Bool.or_eq_true]
      exact ⟨⟨h.1.1, fun z hz => h.1.2 z (by simp at hz ⊢; rcases hz with hz | hz <;> simp [hz])⟩, h1⟩
    · rcases List.mem_cons.1 hz with rfl | hz
      · exact h.1.2 y (by simp)
      · exact h2 z hz

/-- What is left of a region. -/
structure Left (P : Program) (F : Fr) (ops : Array Oper) (B : List Nat) (listed : Array Bool) (l : List (Nat × IOp)) : Prop where
  any : okAny ops (ancs ops) B l = true
  down : ∀ k o, ops[k]? = some o → listed.getD k false = true → ∀ e ∈ o.after, Region.binds .any e = true → listed.getD e.on false = true
  sorted : l.Pairwise (fun x y => x.1 < y.1)
  mem : ∀ j, (∃ q, (j, q) ∈ l) ↔ j < ops.size ∧ listed.getD j true = false
  ok : ∀ x ∈ l, ∃ o, ops[x.1]? = some o ∧ okIOp P F ops x.1 o x.2.base = true
  size : listed.size = ops.size

theorem Left.step {ops : Array Oper} {B : List Nat} {listed : Array Bool} {pre post : List (Nat × IOp)} {y : Nat × IOp} (L : Left P F ops B listed (pre ++ y :: post))
    (hr : ∀ o, ops[y.1]? = some o → ∀ e ∈ o.after, Region.binds .any e = true → listed.getD e.on false = true) :
    Left P F ops B (listed.setIfInBounds y.1 true) (pre ++ post) := by
  have hs := L.sorted
  have hne : ∀ x ∈ pre ++ post, x.1 ≠ y.1 := by
    intro x hx
    rw [List.pairwise_append] at hs
    obtain ⟨_, h2, h3⟩ := hs
    rw [List.pairwise_cons] at h2
    rcases List.mem_append.1 hx with hx | hx
    · exact Nat.ne_of_lt (h3 x hx y (by simp))
    · exact Nat.ne_of_gt (h2.1 x hx)
  refine ⟨(okAny_drop L.any).1, fun k o ho hk e he hb => ?_, hs.sublist (by simp), fun j => ?_, fun x hx => L.ok x (by
    rcases List.mem_append.1 hx with hx | hx <;> simp [hx]), by simp [L.size]⟩
  · by_cases hk' : y.1 = k
    · subst hk'
      exact getD_set_true (hr o ho e he hb)
    · rw [getD_set_ne false hk'] at hk
      exact getD_set_true (L.down k o ho hk e he hb)
  constructor
  · rintro ⟨q, hq⟩
    have hj := hne _ hq
    obtain ⟨h1, h2⟩ := (L.mem j).1 ⟨q, by rcases List.mem_append.1 hq with hq | hq <;> simp [hq]⟩
    exact ⟨h1, by rw [getD_set_ne true (Ne.symm hj)]; exact h2⟩
  · rintro ⟨h1, h2⟩
    by_cases hj : y.1 = j
    · subst hj
      simp [L.size, h1] at h2
    · rw [getD_set_ne true hj] at h2
      obtain ⟨q, hq⟩ := (L.mem j).2 ⟨h1, h2⟩
      refine ⟨q, ?_⟩
      rcases List.mem_append.1 hq with hq | hq
      · simp [hq]
      · rcases List.mem_cons.1 hq with hq | hq
        · exact absurd (by rw [← hq]) hj
        · simp [hq]

theorem getD_true_false {listed : Array Bool} {j : Nat} (h : listed.getD j true = false) : listed.getD j false = false := by
  rcases Nat.lt_or_ge j listed.size with hl | hl
  · simp [hl] at h ⊢; exact h
  · simp [hl]

theorem Left.nil_of_ready {ops : Array Oper} {B : List Nat} {listed : Array Bool} {l : List (Nat × IOp)} (L : Left P F ops B listed l) (h : Region.ready .any ops listed = []) : l = [] := by
  cases l with
  | nil => rfl
  | cons y l =>
    exfalso
    have hy := (L.mem y.1).1 ⟨y.2, by simp⟩
    obtain ⟨o, ho, _⟩ := L.ok y (by simp)
    have hb := (okAny_mem L.any y (by simp)).2
    have : y.1 ∈ Region.ready .any ops listed := by
      rw [mem_ready]
      refine ⟨hy.2, o, ho, fun e he hbi => ?_⟩
      simp only [backward, ho, Array.all_eq_true_iff_forall_mem, Bool.or_eq_true, Bool.not_eq_true', decide_eq_true_eq] at hb
      have hlt : e.on < y.1 := (hb e he).resolve_left (by simp [hbi])
      have hsz : e.on < listed.size := by rw [L.size]; omega
      by_cases hd : listed.getD e.on true = false
      · obtain ⟨q, hq⟩ := (L.mem e.on).2 ⟨by omega, hd⟩
        exfalso
        rcases List.mem_cons.1 hq with hq | hq
        · rw [← hq] at hlt; simp at hlt
        · have := (List.pairwise_cons.1 L.sorted).1 _ hq
          simp at this; omega
      · simp only [Bool.not_eq_false] at hd
        simp [hsz] at hd ⊢; exact hd
    rw [h] at this
    simp at this

theorem wpAny_D (hF : F.WF) (hev : FnOk P ev) {ops : Array Oper} {B : List Nat} {s' : St} {Q : Exit → Act → World → Prop}
    (hk : ∀ G' hw' ew' bx' a' w', SRel F E G' hw' ew' bx' a' w' s' → Q .normal a' w') : ∀ (fuel : Nat) (l : List (Nat × IOp)) (listed : Array Bool) {G : Ghost} {hw : HW} {ew : EW} {bx : Nat → Option Nat} {a : Act} {w : World} {s : St},
      Left P F ops B listed l → l.length ≤ fuel → SRel F E G hw ew bx a w s → runX ev B l s = some s' → wpAny P .any ops Q fuel listed a w
  | 0, l, listed, G, hw, ew, bx, a, w, s, L, hlen, hS, hr => by
    have hl : l = [] := List.length_eq_zero_iff.1 (Nat.le_zero.1 hlen)
    subst hl
    have hs : s = s' := by simp only [runX] at hr; split at hr <;> simp_all
    subst hs
    refine ⟨?_, hk _ _ _ _ _ _ hS⟩
    cases hrd : Region.ready .any ops listed with
    | nil => rfl
    | cons i is =>
      exfalso
      have hi : i ∈ Region.ready .any ops listed := by rw [hrd]; simp
      rw [mem_ready] at hi
      obtain ⟨h0, o, ho, _⟩ := hi
      obtain ⟨q, hq⟩ := (L.mem i).2 ⟨(Array.getElem?_eq_some_iff.1 ho).1, h0⟩
      simp at hq
  | fuel + 1, l, listed, G, hw, ew, bx, a, w, s, L, hlen, hS, hr => by
    refine ⟨fun hrd => ?_, fun i hi => ?_⟩
    · have hl := L.nil_of_ready hrd
      subst hl
      have hs : s = s' := by simp only [runX] at hr; split at hr <;> simp_all
      subst hs
      exact hk _ _ _ _ _ _ hS
    · rw [mem_ready] at hi
      obtain ⟨h0, o, ho, hall⟩ := hi
      obtain ⟨q, hq⟩ := (L.mem i).2 ⟨(Array.getElem?_eq_some_iff.1 ho).1, h0⟩
      obtain ⟨pre, post, rfl⟩ := List.append_of_mem hq
      obtain ⟨_, hsep⟩ := okAny_drop L.any
      have hap : ∀ x ∈ pre, apart x (i, q) = true ∧ bx1 x.2 B = true := by
        intro x hx
        refine ⟨(hsep x hx).resolve_right fun hwt => ?_, (okAny_mem L.any x (by simp [hx])).1⟩
        have h1 := anc_listed L.size L.down i o ho hall x.1 hwt
        have h2 := ((L.mem x.1).1 ⟨x.2, by simp [hx]⟩).2
        rw [getD_true_false h2] at h1
        simp at h1
      have hr2 := runX_front (okAny_mem L.any (i, q) (by simp)).1 pre s hap hr
      rw [runX_cons] at hr2
      obtain ⟨_, s1, hg, hr3⟩ := hr2
      obtain ⟨o', ho', hok⟩ := L.ok (i, q) (by simp)
      have he : o' = o := by simp only at ho'; rw [ho] at ho'; exact (Option.some.inj ho').symm
      subst he
      refine (runG_wp (K := wpAny P .any ops Q fuel (listed.setIfInBounds i true)) (Q := Q) hF hS hev ho hok).1 s1 (runG_base.1 _ hg) fun G' hw' ew' bx' a' w' hS' => ?_
      exact wpAny_D hF hev hk fuel (pre ++ post) _ (L.step (fun o2 ho2 => by
        simp only at ho2
        have e2 : o2 = o' := by rw [ho] at ho2; exact (Option.some.inj ho2).symm
        subst e2; exact hall)) (by simp at hlen ⊢; omega) hS' hr3

theorem idx_mem : ∀ {l : List IOp} {i : Nat} {j : Nat} {q : IOp}, (j, q) ∈ idx l i ↔ i ≤ j ∧ l[j - i]? = some q
  | [], i, j, q => by simp [idx]
  | p :: l, i, j, q => by
    simp only [idx, List.mem_cons, Prod.mk.injEq]
    rw [idx_mem]
    by_cases h : j = i
    · subst h; simp; constructor
      · rintro (h | h)
        · exact h.symm
        · omega
      · intro h; exact .inl h.symm
    · constructor
      · rintro (⟨h1, _⟩ | ⟨h1, h2⟩)
        · exact absurd h1 h
        · refine ⟨by omega, ?_⟩
          have : j - i = (j - (i + 1)) + 1 := by omega
          rw [this]; simpa using h2
      · rintro ⟨h1, h2⟩
        refine .inr ⟨by omega, ?_⟩
        have : j - i = (j - (i + 1)) + 1 := by omega
        rw [this] at h2; simpa using h2

theorem idx_sorted : ∀ (l : List IOp) (i : Nat), (idx l i).Pairwise (fun x y => x.1 < y.1)
  | [], _ => by simp [idx]
  | p :: l, i => by
    simp only [idx, List.pairwise_cons]
    refine ⟨fun x hx => ?_, idx_sorted l (i + 1)⟩
    obtain ⟨j, q⟩ := x
    have := (idx_mem.1 hx).1
    simp only
    omega

theorem idx_length : ∀ (l : List IOp) (i : Nat), (idx l i).length = l.length
  | [], _ => rfl
  | p :: l, i => by simp [idx, idx_length l]

theorem okOps_get {ops : Array Oper} : ∀ {l : List IOp} {i : Nat}, okOps P F ops i l = true → ∀ {j : Nat} {q : IOp}, l[j]? = some q → ∃ o, ops[i + j]? = some o ∧ okIOp P F ops (i + j) o q.base = true
  | [], _, _, j, q, h => by simp at h
  | p :: l, i, hok, j, q, h => by
    simp only [okOps, Bool.and_eq_true] at hok
    cases j with
    | zero =>
      simp only [List.getElem?_cons_zero, Option.some.injEq] at h
      subst h
      cases ho : ops[i]? with
      | none => simp [ho] at hok
      | some o => simp only [ho] at hok; exact ⟨o, by simp, by simpa using hok.1⟩
    | succ j =>
      simp only [List.getElem?_cons_succ] at h
      obtain ⟨o, h1, h2⟩ := okOps_get hok.2 h
      have : i + (j + 1) = i + 1 + j := by omega
      exact ⟨o, by rw [this]; exact h1, by rw [this]; exact h2⟩

theorem left_start {ops : Array Oper} {l : List IOp} (hlen : l.length = ops.size) (hok : okOps P F ops 0 l = true) (hany : okAny ops (ancs ops) (bxs l) (idx l 0) = true) :
    Left P F ops (bxs l) (Array.replicate ops.size false) (idx l 0) := by
  refine ⟨hany, fun k o _ hk => by simp [Array.getD] at hk, idx_sorted l 0, fun j => ?_, fun x hx => ?_, by simp⟩
  · constructor
    · rintro ⟨q, hq⟩
      have h := (idx_mem.1 hq).2
      simp only [Nat.sub_zero] at h
      have hj : j < l.length := (List.getElem?_eq_some_iff.1 h).1
      exact ⟨by omega, by simp [show j < ops.size by omega]⟩
    · rintro ⟨h1, _⟩
      exact ⟨l[j]'(by omega), idx_mem.2 ⟨Nat.zero_le _, by simp⟩⟩
  · obtain ⟨j, q⟩ := x
    have h := (idx_mem.1 hx).2
    simp only [Nat.sub_zero] at h
    have := okOps_get hok h
    simpa using this

end
end Go.D
