/- Operands and moves; a step that makes a value alone. -/
import Derived.Test.YtilfhbpehgklbaaQqState
import Derived.Laws.Sem
import Derived.Laws.Entries
set_option linter.unusedSimpArgs false
set_option linter.unusedVariables false
namespace Go.D

def sameSc : Value → Value → Bool
  | .bool a, .bool b => a == b
  | .int k a, .int j b => k == j && a == b
  | .string a, .string b => a.data.toList == b.data.toList
  | .pointer none, .pointer none => true
  | .map none, .map none => true
  | .nilFunc, .nilFunc => true
  | .nilIface, .nilIface => true
  | .tuple a, .tuple b => a.isEmpty && b.isEmpty
  | _, _ => false

theorem sameSc_eq : ∀ {u v : Value}, sameSc u v = true → v = u ∧ plain u = true := by
  intro u v h
  cases u <;> cases v <;> simp only [sameSc, Bool.false_eq_true, Bool.and_eq_true, beq_iff_eq] at h
  case bool.bool a b => subst h; exact ⟨rfl, rfl⟩
  case int.int k a j b => obtain ⟨rfl, rfl⟩ := h; exact ⟨rfl, rfl⟩
  case string.string a b =>
    obtain ⟨⟨a⟩⟩ := a
    obtain ⟨⟨b⟩⟩ := b
    simp at h; subst h; exact ⟨rfl, rfl⟩
  case pointer.pointer a b => cases a <;> cases b <;> simp at h; exact ⟨rfl, rfl⟩
  case map.map a b => cases a <;> cases b <;> simp at h; exact ⟨rfl, rfl⟩
  case nilFunc.nilFunc => exact ⟨rfl, rfl⟩
  case nilIface.nilIface => exact ⟨rfl, rfl⟩
  case tuple.tuple a b =>
    obtain ⟨h1, h2⟩ := h
    simp at h1 h2; subst h1; subst h2; exact ⟨rfl, rfl⟩

mutual
/-- A constant of the program. -/
def okConst : DV → Value → Bool
  | .sc u, v => sameSc u v
  | .agg ds, v => match v with | .agg cs => okConstL ds cs.toList && cs.toList.all (·.oneCell') | _ => false
  | .sl _ _ xs, v => match v with | .slice none 0 0 => xs.isEmpty | _ => false
  | _, _ => false
def okConstL : List DV → List Value → Bool
  | [], l => l.isEmpty
  | d :: ds, l => match l with | v :: vs => okConst d v && okConstL ds vs | [] => false
end

mutual
theorem okConst_rel {G : Ghost} {w : World} : ∀ (d : DV) {v : Value}, okConst d v = true → VRel G w d v []
  | .sc u, v, h => by simp only [okConst] at h; simp only [VRel]; obtain ⟨h1, h2⟩ := sameSc_eq h; exact ⟨h1, h2, trivial⟩
  | .agg ds, v, h => by
    simp only [okConst] at h
    split at h
    · rename_i cs
      simp only [Bool.and_eq_true, List.all_eq_true] at h
      simp only [VRel]; exact ⟨cs.toList, by simp, okConstL_rel ds h.1, h.2⟩
    · simp at h
  | .sl m sz xs, v, h => by
    simp only [okConst] at h
    split at h
    · simp only [VRel]
      have : xs = [] := by simpa using h
      subst this
      exact ⟨none, 0, rfl, by simp, .inl ⟨rfl, rfl, trivial⟩⟩
    · simp at h
  | .tup _, _, h => by simp [okConst] at h
  | .ptr _ _, _, h => by simp [okConst] at h
  | .cptr _, _, h => by simp [okConst] at h
  | .hsl _ _ _ _ _ _, _, h => by simp [okConst] at h
  | .fn _ _ _, _, h => by simp [okConst] at h
  | .ifc _ _, _, h => by simp [okConst] at h
  | .box _, _, h => by simp [okConst] at h
  | .lref _ _, _, h => by simp [okConst] at h
  | .junk, _, h => by simp [okConst] at h
theorem okConstL_rel {G : Ghost} {w : World} : ∀ (ds : List DV) {l : List Value}, okConstL ds l = true → VRelL G w ds l []
  | [], l, h => by simp only [okConstL] at h; simp only [VRelL]; exact ⟨by simpa using h, trivial⟩
  | d :: ds, l, h => by
    simp only [okConstL] at h
    split at h
    · rename_i v vs
      simp only [Bool.and_eq_true] at h
      exact VRelL.cons (r₁ := []) (okConst_rel d h.1) (okConstL_rel ds h.2)
    · simp at h
end

def Src.loc : Src → Option ELoc
  | .v p _ => some (.v p)
  | .t i _ => some (.t i)
  | .c _ => none
def Src.mvd : Src → Bool
  | .v _ m => m
  | .t _ m => m
  | .c _ => false

/-- Is this the operand? -/
def okSrc (F : Fr) (src : Src) (x : Operand) : Bool :=
  match src, x with
  | .c d, .const v => okConst d v
  | .c (.fn (.func f) [] []), .func g => f == g
  | .v p m, .tmp t => F.slot (.v p) == some t && !(m && F.bxs.getD p false)
  | .t i _, .tmp t => F.slot (.t i) == some t
  | _, _ => false

/-- .. and no variable of its own cells. -/
def okSrcN (F : Fr) (src : Src) (x : Operand) : Bool :=
  okSrc F src x && match src with | .v p _ => !F.bxs.getD p false | _ => true

section
variable {F : Fr} {E : Entry} {G : Ghost} {hw : HW} {ew : EW} {bx : Nat → Option Nat} {a : Act} {w : World} {s : St}

theorem SRel.val_some (hS : SRel F E G hw ew bx a w s) {l : ELoc} {t : Nat} (h : F.slot l = some t) : ∃ d, s.val l = some d := by
  cases l with
  | v p =>
    have : p < F.vs.length := by
      rcases Nat.lt_or_ge p F.vs.length with h' | h'
      · exact h'
      · simp only [Fr.slot, List.getElem?_eq_none h'] at h; simp at h
    exact ⟨s.vars[p]'(by rw [hS.lv]; exact this), by simp [St.val, hS.lv, this]⟩
  | t i =>
    have : i < F.ts.length := by
      rcases Nat.lt_or_ge i F.ts.length with h' | h'
      · exact h'
      · simp only [Fr.slot, List.getElem?_eq_none h'] at h; simp at h
    exact ⟨s.tmps[i]'(by rw [hS.lt]; exact this), by simp [St.val, hS.lt, this]⟩

/-- What an operand is. -/
structure ORel (G : Ghost) (w : World) (bx : Nat → Option Nat) (ew : EW) (l : Option ELoc) (d : DV) (v : Value) (r : List Nat) : Prop where
  rel : XRel G w bx d v r
  nodup : r.Nodup
  own : ∀ x ∈ r, ∃ l', l = some l' ∧ ew x = some l'

theorem src_rel (hS : SRel F E G hw ew bx a w s) {src : Src} {x : Operand} (h : okSrc F src x = true) :
    ∃ r, ORel G w bx ew src.loc (readS s src).2 (a.eval x) r ∧ (readS s src).1 = src.mvd := by
  unfold okSrc at h
  split at h
  · exact ⟨[], ⟨.of (okConst_rel _ h), by simp, by simp⟩, rfl⟩
  · rename_i f g
    simp only [beq_iff_eq] at h; subst h
    refine ⟨[], ⟨.of ?_, by simp, by simp⟩, rfl⟩
    simp only [readS, VRel, Act.eval]
    exact ⟨trivial, [], [], rfl, VRelL.nil, VRelL.nil⟩
  · rename_i p m t
    simp only [Bool.and_eq_true, beq_iff_eq] at h
    obtain ⟨d, hd⟩ := hS.val_some h.1
    obtain ⟨r, h1, h2, h3, _⟩ := hS.loc _ _ _ h.1 hd
    have : (readS s (.v p m)).2 = d := by simp only [readS, St.val] at *; simp [hd]
    refine ⟨r, ⟨by rw [this]; exact h3, h1, fun x hx => ⟨_, rfl, h2 x hx⟩⟩, rfl⟩
  · rename_i i m t
    simp only [beq_iff_eq] at h
    obtain ⟨d, hd⟩ := hS.val_some h
    obtain ⟨r, h1, h2, h3, _⟩ := hS.loc _ _ _ h hd
    have : (readS s (.t i m)).2 = d := by simp only [readS, St.val] at *; simp [hd]
    refine ⟨r, ⟨by rw [this]; exact h3, h1, fun x hx => ⟨_, rfl, h2 x hx⟩⟩, rfl⟩
  · simp at h

theorem src_nobox (hS : SRel F E G hw ew bx a w s) {src : Src} {x : Operand} (h : okSrcN F src x = true) : ∀ cs, (readS s src).2 ≠ .box cs := by
  intro cs he
  simp only [okSrcN, Bool.and_eq_true] at h
  obtain ⟨h, hb⟩ := h
  unfold okSrc at h
  split at h
  · rename_i d v; simp only [readS] at he; subst he; simp [okConst] at h
  · simp [readS] at he
  · rename_i p m t
    simp only [Bool.and_eq_true, beq_iff_eq] at h
    obtain ⟨d, hd⟩ := hS.val_some h.1
    obtain ⟨r, _, _, _, h4⟩ := hS.loc _ _ _ h.1 hd
    have : (readS s (.v p m)).2 = d := by simp only [readS, St.val] at *; simp [hd]
    rw [this] at he
    obtain ⟨p', rb, e, h5, _⟩ := h4 cs he
    simp at e; subst e
    simp only [h5] at hb; simp at hb
  · rename_i i m t
    simp only [beq_iff_eq] at h
    obtain ⟨d, hd⟩ := hS.val_some h
    obtain ⟨r, _, _, _, h4⟩ := hS.loc _ _ _ h hd
    have : (readS s (.t i m)).2 = d := by simp only [readS, St.val] at *; simp [hd]
    rw [this] at he
    obtain ⟨p', rb, e, _⟩ := h4 cs he
    simp at e
  · simp at h

/-- What is handed on: with what it owns, if it was moved. -/
theorem ORel.hand {l : Option ELoc} {d : DV} {v : Value} {r : List Nat} (h : ORel G w bx ew l d v r) (m : Bool) :
    ∃ r', ORel G w bx ew l (D.hand (m, d)) v r' ∧ (m = false → r' = []) := by
  cases m with
  | true => exact ⟨r, h, by simp⟩
  | false =>
    refine ⟨[], ⟨?_, by simp, by simp⟩, fun _ => rfl⟩
    have hr := h.rel
    cases d with
    | lref p off => exact ⟨rfl, hr.2⟩
    | box cs => simp [D.hand, strip, XRel, VRel]
    | _ => exact .of (VRel.strip _ hr)

def movedL : List Src → List ELoc
  | [] => []
  | src :: r => match src.mvd, src.loc with | true, some l => l :: movedL r | _, _ => movedL r

theorem moveS_len (op : DOp) (adr : DV) (s : St) (src : Src) : (moveS op adr s src).vars.length = s.vars.length ∧ (moveS op adr s src).tmps.length = s.tmps.length ∧ (moveS op adr s src).heap = s.heap := by
  cases src with
  | v p m => cases m <;> simp [moveS]
  | t i m => cases m <;> simp [moveS]
  | c d => simp [moveS]

theorem moves_len (op : DOp) (adr : DV) : ∀ (ins : List Src) (s : St), (ins.foldl (moveS op adr) s).vars.length = s.vars.length ∧ (ins.foldl (moveS op adr) s).tmps.length = s.tmps.length ∧
    (ins.foldl (moveS op adr) s).heap = s.heap
  | [], s => by simp
  | src :: r, s => by
    have h := moveS_len op adr s src
    have k := moves_len op adr r (moveS op adr s src)
    exact ⟨k.1.trans h.1, k.2.1.trans h.2.1, k.2.2.trans h.2.2⟩

theorem moveS_other (op : DOp) (adr : DV) (s : St) (src : Src) (l : ELoc) (h : src.mvd = true → src.loc ≠ some l) : (moveS op adr s src).val l = s.val l := by
  cases src with
  | v p m =>
    cases m with
    | false => rfl
    | true =>
      cases l with
      | t i => rfl
      | v q =>
        simp only [moveS, St.val]
        rw [List.getElem?_set_ne]
        intro e; subst e; exact h rfl rfl
  | t i m =>
    cases m with
    | false => rfl
    | true =>
      cases l with
      | v q => rfl
      | t j =>
        simp only [moveS, St.val]
        rw [List.getElem?_set_ne]
        intro e; subst e; exact h rfl rfl
  | c d => rfl

theorem moves_other (op : DOp) (adr : DV) : ∀ (ins : List Src) (s : St) (l : ELoc), l ∉ movedL ins → (ins.foldl (moveS op adr) s).val l = s.val l
  | [], s, l, _ => rfl
  | src :: r, s, l, h => by
    have h1 : src.mvd = true → src.loc ≠ some l := by
      intro hm hl
      simp [movedL, hm, hl] at h
    have h2 : l ∉ movedL r := by
      unfold movedL at h
      split at h
      · simp at h; exact h.2
      · exact h
    simp only [List.foldl_cons]
    rw [moves_other op adr r _ l h2, moveS_other op adr s src l h1]

theorem moveS_self (op : DOp) (adr : DV) (s : St) (src : Src) (l : ELoc) (hm : src.mvd = true) (hl : src.loc = some l) {d : DV} (hd : s.val l = some d) :
    (moveS op adr s src).val l = some (back op d adr) := by
  cases src with
  | v p m =>
    simp only [Src.mvd] at hm; subst hm
    simp only [Src.loc, Option.some.injEq] at hl; subst hl
    simp only [St.val] at hd
    have : p < s.vars.length := by
      rcases Nat.lt_or_ge p s.vars.length with h' | h'
      · exact h'
      · rw [List.getElem?_eq_none h'] at hd; simp at hd
    simp only [moveS, St.val, List.getD_eq_getElem?_getD, hd]
    simp [this]
  | t i m =>
    simp only [Src.mvd] at hm; subst hm
    simp only [Src.loc, Option.some.injEq] at hl; subst hl
    simp only [St.val] at hd
    have : i < s.tmps.length := by
      rcases Nat.lt_or_ge i s.tmps.length with h' | h'
      · exact h'
      · rw [List.getElem?_eq_none h'] at hd; simp at hd
    simp only [moveS, St.val, List.getD_eq_getElem?_getD, hd]
    simp [this]
  | c d => simp [Src.loc] at hl

theorem moves_self (op : DOp) (adr : DV) : ∀ (ins : List Src) (s : St) (l : ELoc), (movedL ins).Nodup → l ∈ movedL ins → ∀ {d : DV}, s.val l = some d →
    (ins.foldl (moveS op adr) s).val l = some (back op d adr)
  | [], s, l, _, h, _, _ => by simp [movedL] at h
  | src :: r, s, l, hn, h, d, hd => by
    simp only [List.foldl_cons]
    unfold movedL at hn h
    split at hn
    · rename_i l' hm hl
      simp only [hm, hl, List.mem_cons] at h
      simp at hn
      rcases h with h | h
      · subst h
        rw [moves_other op adr r _ l hn.1, moveS_self op adr s src l hm hl hd]
      · have : l ≠ l' := fun e => hn.1 (e ▸ h)
        exact moves_self op adr r _ l hn.2 h (by rw [moveS_other op adr s src l (fun _ => by rw [hl]; simp; exact fun e => this e.symm)]; exact hd)
    · rename_i hno
      have h' : l ∈ movedL r := by
        split at h
        · rename_i l' hm hl; exact absurd hl (hno l' hm)
        · exact h
      by_cases hmv : src.mvd = true ∧ src.loc = some l
      · exact absurd hmv.2 (hno l hmv.1)
      · exact moves_self op adr r _ l hn h' (by rw [moveS_other op adr s src l (fun h1 h2 => hmv ⟨h1, h2⟩)]; exact hd)

def Dst.loc (i : Nat) : Dst → Option ELoc
  | .v p => some (.v p)
  | .t => some (.t i)
  | .none => Option.none

theorem writeD_put (i : Nat) (D : Dst) (x : DV) (s : St) : writeD i D x s = s.put (D.loc i) x := by cases D <;> rfl

def okDst (F : Fr) (i : Nat) (dst : Option Tmp) (D : Dst) : Bool :=
  match D with
  | .v p => (match dst with | some t => F.slot (.v p) == some t | Option.none => false)
  | .t => (match dst with | some t => F.slot (.t i) == some t | Option.none => false)
  | .none => dst.isNone

theorem okDst_spec {i : Nat} {dst : Option Tmp} {D : Dst} (h : okDst F i dst D = true) :
    (∀ l, D.loc i = some l → F.slot l = dst) ∧ (D.loc i = Option.none → dst = Option.none) ∧ (D.loc i ≠ Option.none → dst ≠ Option.none) := by
  cases D <;> cases dst <;> simp [okDst, Dst.loc] at h ⊢ <;> exact h

/-- A source that was moved away, by an operation that takes all of it: what stays. -/
theorem moved_stays (hS : SRel F E G hw ew bx a w s) {op : DOp} {adr : DV} (hb : ∀ d, back op d adr = strip d) {ins : List Src} (hn : (movedL ins).Nodup) (hand : List Nat) :
    ∀ l ∈ movedL ins, ∀ t d, F.slot l = some t → (ins.foldl (moveS op adr) s).val l = some d → ∃ r, r.Nodup ∧ (∀ x ∈ r, ew x = some l ∧ x ∉ hand) ∧ XRel G w bx d (a.tmps.getD t undef) r ∧
      ∀ cs, d = .box cs → ∃ p rb, l = .v p ∧ F.bxs.getD p false = true ∧ bx p = some rb ∧ a.tmps.getD t undef = .pointer (some ⟨rb, 0, none⟩) := by
  intro l hl t d ht hd
  obtain ⟨d0, hd0⟩ := hS.val_some ht
  rw [moves_self op adr ins s l hn hl hd0, hb] at hd
  obtain rfl : strip d0 = d := by simpa using hd
  obtain ⟨r, _, _, h3, _⟩ := hS.loc _ _ _ ht hd0
  refine ⟨[], by simp, by simp, ?_, ?_⟩
  · cases d0 with
    | lref p off => exact ⟨rfl, h3.2⟩
    | box cs => simp [strip, XRel, VRel]
    | _ => exact .of (VRel.strip _ h3)
  · intro cs hcs
    exfalso
    cases d0 <;> simp [strip] at hcs

theorem strip_not_lref {d : DV} {p off : Nat} (h : strip d = .lref p off) : d = .lref p off := by
  cases d <;> simp [strip] at h ⊢; exact h

/-- A STEP THAT MAKES A VALUE, AND TURNS NOTHING ELSE. -/
theorem SRel.pure (hF : F.WF) (hS : SRel F E G hw ew bx a w s) {i : Nat} {D : Dst} {dt : Option Tmp} (hD : okDst F i dt D = true)
    {op : DOp} {adr : DV} (hb : ∀ d, back op d adr = strip d) {ins : List Src} (hn : (movedL ins).Nodup)
    {d : DV} {v : Value} {r : List Nat} (hx : XRel G w bx d v r) (hr : r.Nodup) (hown : ∀ x ∈ r, ∃ l ∈ movedL ins, ew x = some l) (hnb : ∀ cs, d ≠ .box cs) :
    ∃ ew', SRel F E G hw ew' bx (a.put dt v) w (writeD i D d { (ins.foldl (moveS op adr) s) with heap := s.heap }) := by
  obtain ⟨d1, d2, d3⟩ := okDst_spec hD
  have hl := moves_len op adr ins s
  obtain ⟨ew', h⟩ := SRel.finish hF hS (movedL ins) r (D.loc i) dt (fun x hx' => by
      obtain ⟨l, h1, h2⟩ := hown x hx'; exact ⟨l, h2, .inl h1⟩)
    (CPres.refl hS.ok r) hS.heap hl.1 hl.2.1 (fun l h => moves_other op adr ins s l h) (moved_stays hS hb hn r) d1 d2 d3
    (bx' := bx) (fun _ _ => rfl) (fun _ _ _ _ => rfl) hx hr
    (fun x hx' => by
      obtain ⟨l, h1, h2⟩ := hown x hx'
      exact ⟨hS.disj x (by rw [h2]; simp), hS.ewlt x (by rw [h2]; simp), .inl hx'⟩)
    (fun cs e => absurd e (hnb cs))
  refine ⟨ew', ?_⟩
  rw [writeD_put]
  cases D <;> exact h

end
end Go.D
