/- Two operations that look at and change different places may be swapped. -/
import Derived.Test.YtilfhbpehgklbaaQqHk
import Derived.Test.YtilfhbpehgklbaaQqOps
set_option linter.unusedSimpArgs false
set_option linter.unusedVariables false
namespace Go.D

variable {ev : FuncId → List DV → Heap → Res DV}

/-- The places that an operation changes; those that it looks at or changes. -/
def IOp.wr (i : Nat) (q : IOp) : List ELoc := (q.dst.loc i).toList ++ ((q.op.dst q.dst).loc i).toList ++ movedL q.ins
def IOp.rd (i : Nat) (q : IOp) : List ELoc := q.wr i ++ q.ins.filterMap Src.loc ++ (match q.guard with | some (j, _) => [.t j] | none => [])

theorem val_put (s : St) (l : Option ELoc) (x : DV) (m : ELoc) : (s.put l x).val m = if l = some m then (s.val m).map (fun _ => x) else s.val m := by
  cases l with
  | none => simp [St.put]
  | some l =>
    cases l with
    | v p =>
      cases m with
      | t i => simp [St.put, St.val]
      | v q =>
        simp only [St.put, St.val, Option.some.injEq, ELoc.v.injEq]
        by_cases e : p = q
        · subst e
          simp only [if_true]
          rcases Nat.lt_or_ge p s.vars.length with h | h
          · simp [h]
          · simp [h]
        · simp [e]
    | t p =>
      cases m with
      | v i => simp [St.put, St.val]
      | t q =>
        simp only [St.put, St.val, Option.some.injEq, ELoc.t.injEq]
        by_cases e : p = q
        · subst e
          simp only [if_true]
          rcases Nat.lt_or_ge p s.tmps.length with h | h
          · simp [h]
          · simp [h]
        · simp [e]

theorem getD_val_v (s : St) (p : Nat) : s.vars.getD p .junk = (s.val (.v p)).getD .junk := by simp [St.val, List.getD_eq_getElem?_getD]
theorem getD_val_t (s : St) (p : Nat) : s.tmps.getD p .junk = (s.val (.t p)).getD .junk := by simp [St.val, List.getD_eq_getElem?_getD]

theorem val_moveS (op : DOp) (adr : DV) (s : St) (src : Src) (l : ELoc) :
    (moveS op adr s src).val l = if src.mvd = true ∧ src.loc = some l then (s.val l).map (fun x => back op x adr) else s.val l := by
  have key : ∀ m : ELoc, ((s.put (some m) (back op ((s.val m).getD .junk) adr)).val l) = if m = l then (s.val l).map (fun x => back op x adr) else s.val l := by
    intro m
    rw [val_put]
    by_cases e : m = l
    · subst e
      simp only [if_true]
      cases s.val m <;> simp
    · simp [e]
  cases src with
  | c d => simp [moveS, Src.mvd]
  | v p m =>
    cases m with
    | false => simp [moveS, Src.mvd]
    | true =>
      have := key (.v p)
      rw [← getD_val_v] at this
      simpa [moveS, Src.mvd, Src.loc, St.put] using this
  | t p m =>
    cases m with
    | false => simp [moveS, Src.mvd]
    | true =>
      have := key (.t p)
      rw [← getD_val_t] at this
      simpa [moveS, Src.mvd, Src.loc, St.put] using this

def updM (op : DOp) (adr : DV) : List Src → ELoc → Option DV → Option DV
  | [], _, v => v
  | src :: r, l, v => updM op adr r l (if src.mvd = true ∧ src.loc = some l then v.map (fun x => back op x adr) else v)

theorem val_moves (op : DOp) (adr : DV) (l : ELoc) : ∀ (ins : List Src) (s : St), (ins.foldl (moveS op adr) s).val l = updM op adr ins l (s.val l)
  | [], s => rfl
  | src :: r, s => by rw [List.foldl_cons, val_moves op adr l r, val_moveS]; rfl

theorem updM_id (op : DOp) (adr : DV) (l : ELoc) : ∀ (ins : List Src) (v : Option DV), l ∉ movedL ins → updM op adr ins l v = v
  | [], _, _ => rfl
  | src :: r, v, h => by
    have h1 : ¬ (src.mvd = true ∧ src.loc = some l) := by
      rintro ⟨hm, hl⟩
      simp [movedL, hm, hl] at h
    have h2 : l ∉ movedL r := by
      unfold movedL at h
      split at h
      · simp at h; exact h.2
      · exact h
    simp only [updM, h1, if_false]
    exact updM_id op adr l r v h2

theorem readS_congr {s s2 : St} {src : Src} (h : ∀ l, src.loc = some l → s2.val l = s.val l) : readS s2 src = readS s src := by
  cases src with
  | c d => rfl
  | v p m => simp only [readS, getD_val_v]; rw [h _ rfl]
  | t p m => simp only [readS, getD_val_t]; rw [h _ rfl]

theorem oldD_congr {s s2 : St} {i : Nat} {D : Dst} (h : ∀ l, D.loc i = some l → s2.val l = s.val l) : oldD i D s2 = oldD i D s := by
  cases D with
  | none => rfl
  | v p => simp only [oldD, getD_val_v]; rw [h _ rfl]
  | t => simp only [oldD, getD_val_t]; rw [h _ rfl]

theorem St.ext_val {s s2 : St} (h : ∀ l, s.val l = s2.val l) (hh : s.heap = s2.heap) : s = s2 := by
  obtain ⟨v, t, hp⟩ := s
  obtain ⟨v2, t2, hp2⟩ := s2
  have h1 : v = v2 := List.ext_getElem? fun i => h (.v i)
  have h2 : t = t2 := List.ext_getElem? fun i => h (.t i)
  simp only at hh
  subst h1 h2 hh
  rfl

theorem val_heap (s : St) (h : Heap) (l : ELoc) : ({ s with heap := h } : St).val l = s.val l := by cases l <;> rfl
theorem put_heap (s : St) (l : Option ELoc) (x : DV) : (s.put l x).heap = s.heap := by
  cases l with
  | none => rfl
  | some l => cases l <;> rfl

theorem runOp_local {i : Nat} {q : IOp} {s s1 : St} (hr : runOp ev i q s = .st s1) : ∃ u : ELoc → Option DV → Option DV, (∀ l, l ∉ q.wr i → ∀ v, u l v = v) ∧ (∀ l, s1.val l = u l (s.val l)) ∧
    (hk q.op ≤ 1 → s1.heap = s.heap) ∧ ∀ s2 : St, (∀ l ∈ q.rd i, s2.val l = s.val l) → (hk q.op = 0 ∨ s2.heap = s.heap) → boxOk q.op q.dst s2 = true →
      ∃ s3, runOp ev i q s2 = .st s3 ∧ (∀ l, s3.val l = u l (s2.val l)) ∧ (hk q.op ≤ 1 → s3.heap = s2.heap) ∧ (hk q.op ≠ 0 → s3.heap = s1.heap) := by
  unfold runOp at hr
  simp only at hr
  split at hr
  · rename_i hbx
    split at hr
    · rename_i r h hc
      simp only [Out.st.injEq] at hr
      subst hr
      refine ⟨fun l v => if (q.op.dst q.dst).loc i = some l then (updM q.op ((q.ins.map (readS s)).headD (false, .junk)).2 q.ins l v).map (fun _ => r) else updM q.op ((q.ins.map (readS s)).headD (false, .junk)).2 q.ins l v, ?_, ?_, ?_, ?_⟩
      · intro l hl v
        simp only [IOp.wr, List.mem_append, Option.mem_toList, not_or] at hl
        have h1 : ¬ (q.op.dst q.dst).loc i = some l := fun e => hl.1.2 e
        simp only [h1, if_false]
        exact updM_id _ _ _ _ _ hl.2
      · intro l
        rw [writeD_put, val_put, val_heap, val_moves]
      · intro hk'
        rw [writeD_put, put_heap]
        exact compute_hk1 hk' hc
      · intro s2 hrd hh hb2
        have hxs : q.ins.map (readS s2) = q.ins.map (readS s) := List.map_congr_left fun src hs => readS_congr fun l hl => hrd l (by
          simp only [IOp.rd, List.mem_append]
          exact .inl (.inr (List.mem_filterMap.2 ⟨src, hs, hl⟩)))
        have hold : oldD i (q.op.dst q.dst) s2 = oldD i (q.op.dst q.dst) s := oldD_congr fun l hl => hrd l (by
          simp only [IOp.rd, IOp.wr, List.mem_append, Option.mem_toList]
          exact .inl (.inl (.inl (.inr hl))))
        have hc2 : ∃ h', compute ev q.op (oldD i (q.op.dst q.dst) s2) (q.ins.map (readS s2)) s2.heap = .ok r h' ∧ (hk q.op ≤ 1 → h' = s2.heap) ∧ (hk q.op ≠ 0 → h' = h) := by
          rw [hxs, hold]
          rcases hh with h0 | he
          · rw [compute_hk0 h0 _ _ s.heap s2.heap, hc]
            exact ⟨_, rfl, fun _ => rfl, fun hn => absurd h0 hn⟩
          · rw [he, hc]
            exact ⟨h, rfl, fun h1 => compute_hk1 h1 hc, fun _ => rfl⟩
        obtain ⟨h', hc2, e1, e2⟩ := hc2
        refine ⟨writeD i (q.op.dst q.dst) r { (q.ins.foldl (moveS q.op ((q.ins.map (readS s)).headD (false, .junk)).2) s2) with heap := h' }, ?_, ?_, ?_, ?_⟩
        · unfold runOp
          simp only [hb2, if_true, hc2]
          rw [hxs]
        · intro l
          rw [writeD_put, val_put, val_heap, val_moves]
        · intro h1
          rw [writeD_put, put_heap]
          exact e1 h1
        · intro h1
          rw [writeD_put, put_heap, writeD_put, put_heap]
          exact e2 h1
    · simp at hr
    · simp at hr
  · simp at hr

theorem runG_local {i : Nat} {q : IOp} {s s1 : St} (hr : runG ev i q s = .st s1) : ∃ u : ELoc → Option DV → Option DV, (∀ l, l ∉ q.wr i → ∀ v, u l v = v) ∧ (∀ l, s1.val l = u l (s.val l)) ∧
    (hk q.op ≤ 1 → s1.heap = s.heap) ∧ ∀ s2 : St, (∀ l ∈ q.rd i, s2.val l = s.val l) → (hk q.op = 0 ∨ s2.heap = s.heap) → boxOk q.op q.dst s2 = true →
      ∃ s3, runG ev i q s2 = .st s3 ∧ (∀ l, s3.val l = u l (s2.val l)) ∧ (hk q.op ≤ 1 → s3.heap = s2.heap) ∧ (hk q.op ≠ 0 → s3.heap = s1.heap) := by
  cases hg : q.guard with
  | none =>
    have e : ∀ s, runG ev i q s = runOp ev i q s := fun s => by simp [runG, hg]
    rw [e] at hr
    obtain ⟨u, h1, h2, h3, h4⟩ := runOp_local hr
    exact ⟨u, h1, h2, h3, fun s2 a b c => by rw [e]; exact h4 s2 a b c⟩
  | some jw =>
    obtain ⟨j, want⟩ := jw
    have hget : ∀ s2 : St, (∀ l ∈ q.rd i, s2.val l = s.val l) → s2.tmps.getD j .junk = s.tmps.getD j .junk := fun s2 hrd => by
      rw [getD_val_t, getD_val_t, hrd (.t j) (by simp [IOp.rd, hg])]
    have skip : ∀ s1 : St, Out.st (writeD i q.dst undefD s) = .st s1 → ∃ u : ELoc → Option DV → Option DV, (∀ l, l ∉ q.wr i → ∀ v, u l v = v) ∧ (∀ l, s1.val l = u l (s.val l)) ∧
        (hk q.op ≤ 1 → s1.heap = s.heap) ∧ ∀ s2 : St, (∀ l ∈ q.rd i, s2.val l = s.val l) → (hk q.op = 0 ∨ s2.heap = s.heap) → 
        (∀ l, (writeD i q.dst undefD s2).val l = u l (s2.val l)) ∧ (hk q.op ≤ 1 → (writeD i q.dst undefD s2).heap = s2.heap) ∧ (hk q.op ≠ 0 → (writeD i q.dst undefD s2).heap = s1.heap) := by
      intro s1 hs1
      simp only [Out.st.injEq] at hs1
      subst hs1
      refine ⟨fun l v => if q.dst.loc i = some l then v.map (fun _ => undefD) else v, ?_, ?_, ?_, ?_⟩
      · intro l hl v
        simp only [IOp.wr, List.mem_append, Option.mem_toList, not_or] at hl
        have h1 : ¬ q.dst.loc i = some l := fun e => hl.1.1 e
        simp only [h1, if_false]
      · intro l; rw [writeD_put, val_put]
      · intro _; rw [writeD_put, put_heap]
      · intro s2 _ hh
        refine ⟨fun l => by rw [writeD_put, val_put], fun _ => by rw [writeD_put, put_heap], fun hn => ?_⟩
        rw [writeD_put, put_heap, writeD_put, put_heap]
        exact hh.resolve_left hn
    simp only [runG, hg] at hr
    split at hr
    · rename_i b hb
      split at hr
      · rename_i hbw
        obtain ⟨u, h1, h2, h3, h4⟩ := runOp_local hr
        refine ⟨u, h1, h2, h3, fun s2 a b' c => ?_⟩
        obtain ⟨s3, k⟩ := h4 s2 a b' c
        exact ⟨s3, by simp only [runG, hg, hget s2 a, hb, hbw, if_true]; exact k.1, k.2⟩
      · rename_i hbw
        obtain ⟨u, h1, h2, h3, h4⟩ := skip s1 hr
        exact ⟨u, h1, h2, h3, fun s2 a b' c => ⟨_, by simp only [runG, hg, hget s2 a, hb, hbw, if_false], h4 s2 a b'⟩⟩
    · rename_i x hb
      obtain ⟨u, h1, h2, h3, h4⟩ := skip s1 hr
      exact ⟨u, h1, h2, h3, fun s2 a b' c => ⟨_, by simp only [runG, hg, hget s2 a, hb], h4 s2 a b'⟩⟩
    · simp at hr

theorem noL_val {B : List Nat} {s : St} : noL B s = true ↔ ∀ p ∈ B, ∀ l d, s.val l = some d → isLref d p = false := by
  simp only [noL, List.all_eq_true, Bool.not_eq_true', Bool.or_eq_false_iff]
  constructor
  · intro h p hp l d hd
    obtain ⟨h1, h2⟩ := h p hp
    simp only [List.any_eq_false] at h1 h2
    cases l with
    | v x => simpa using h1 d (List.mem_of_getElem? hd)
    | t x => simpa using h2 d (List.mem_of_getElem? hd)
  · intro h p hp
    simp only [List.any_eq_false]
    refine ⟨fun d hd => ?_, fun d hd => ?_⟩
    · obtain ⟨i, hi⟩ := List.mem_iff_getElem?.1 hd
      simpa using h p hp (.v i) d hi
    · obtain ⟨i, hi⟩ := List.mem_iff_getElem?.1 hd
      simpa using h p hp (.t i) d hi

/-- Two operations that have nothing to do with one another. -/
def apart (x y : Nat × IOp) : Bool :=
  (x.2.wr x.1).all (fun l => !(y.2.rd y.1).contains l) && (y.2.wr y.1).all (fun l => !(x.2.rd x.1).contains l) &&
    (hk x.2.op == 0 || hk y.2.op == 0 || (decide (hk x.2.op ≤ 1) && decide (hk y.2.op ≤ 1)))

theorem apart_spec {x y : Nat × IOp} (h : apart x y = true) : (∀ l ∈ x.2.wr x.1, l ∉ y.2.rd y.1) ∧ (∀ l ∈ y.2.wr y.1, l ∉ x.2.rd x.1) ∧
    (hk x.2.op = 0 ∨ hk y.2.op = 0 ∨ (hk x.2.op ≤ 1 ∧ hk y.2.op ≤ 1)) := by
  simp only [apart, Bool.and_eq_true, List.all_eq_true, Bool.not_eq_true', Bool.or_eq_true, beq_iff_eq, decide_eq_true_eq] at h
  obtain ⟨⟨h1, h2⟩, h3⟩ := h
  refine ⟨fun l hl hm => ?_, fun l hl hm => ?_, ?_⟩
  · have := h1 l hl; rw [List.contains_iff_mem.2 hm] at this; simp at this
  · have := h2 l hl; rw [List.contains_iff_mem.2 hm] at this; simp at this
  · rcases h3 with (h3 | h3) | h3
    · exact .inl h3
    · exact .inr (.inl h3)
    · exact .inr (.inr h3)

theorem wr_rd {i : Nat} {q : IOp} {l : ELoc} (h : l ∈ q.wr i) : l ∈ q.rd i := by
  simp only [IOp.rd, List.mem_append]; exact .inl (.inl h)

/-- Every variable that this operation gives cells of its own. -/
def bx1 (q : IOp) (B : List Nat) : Bool := match q.op, q.dst with | .bx _, .v p => B.contains p | _, _ => true

theorem boxOk_noL {q : IOp} {B : List Nat} {s : St} (hB : bx1 q B = true) (h : noL B s = true) : boxOk q.op q.dst s = true := by
  unfold bx1 at hB
  unfold boxOk
  split
  · rename_i n p h1 h2
    simp only [h1, h2] at hB
    simp only [noL, List.all_eq_true] at h
    exact h p (List.contains_iff_mem.1 hB)
  · rfl

theorem swap {x y : Nat × IOp} {B : List Nat} {s s1 s2 : St} (hap : apart x y = true) (hx : bx1 x.2 B = true) (hy : bx1 y.2 B = true)
    (h0 : noL B s = true) (h2 : noL B s2 = true) (hf : runG ev x.1 x.2 s = .st s1) (hg : runG ev y.1 y.2 s1 = .st s2) :
    ∃ s3, runG ev y.1 y.2 s = .st s3 ∧ noL B s3 = true ∧ runG ev x.1 x.2 s3 = .st s2 := by
  obtain ⟨a1, a2, a3⟩ := apart_spec hap
  obtain ⟨uf, f1, f2, f3, f4⟩ := runG_local hf
  obtain ⟨ug, g1, g2, g3, g4⟩ := runG_local hg
  obtain ⟨s3, e1, e2, e3, e4⟩ := g4 s (fun l hl => by
    rw [f2 l, f1 l (fun hm => a1 l hm hl)]) (by
    rcases a3 with a | a | a
    · exact .inr (f3 (by omega)).symm
    · exact .inl a
    · exact .inr (f3 a.1).symm) (boxOk_noL hy h0)
  have e2' : ∀ l, l ∉ y.2.wr y.1 → s3.val l = s.val l := fun l hl => by rw [e2 l, g1 l hl]
  have e2'' : ∀ l, l ∈ y.2.wr y.1 → s3.val l = s2.val l := fun l hl => by
    rw [e2 l, g2 l, f2 l, f1 l (fun hm => a1 l hm (wr_rd hl))]
  have n3 : noL B s3 = true := by
    rw [noL_val] at h0 h2 ⊢
    intro p hp l d hd
    by_cases hl : l ∈ y.2.wr y.1
    · rw [e2'' l hl] at hd; exact h2 p hp l d hd
    · rw [e2' l hl] at hd; exact h0 p hp l d hd
  obtain ⟨s4, k1, k2, k3, k4⟩ := f4 s3 (fun l hl => e2' l (fun hm => a2 l hm hl)) (by
    rcases a3 with a | a | a
    · exact .inl a
    · exact .inr (e3 (by omega))
    · exact .inr (e3 a.2)) (boxOk_noL hx n3)
  refine ⟨s3, e1, n3, ?_⟩
  rw [k1]
  congr 1
  refine St.ext_val (fun l => ?_) ?_
  · rw [k2 l, e2 l, g2 l, f2 l]
    by_cases hl : l ∈ x.2.wr x.1
    · have : l ∉ y.2.wr y.1 := fun hm => a1 l hl (wr_rd hm)
      rw [g1 l this, g1 l this]
    · rw [f1 l hl, f1 l hl]
  · by_cases hx0 : hk x.2.op = 0
    · rw [k3 (by omega)]
      by_cases hy0 : hk y.2.op = 0
      · rw [e3 (by omega), g3 (by omega), f3 (by omega)]
      · rw [e4 hy0]
    · rw [k4 hx0]
      have hy1 : hk y.2.op ≤ 1 := by omega
      rw [g3 hy1]

theorem runX_head {B : List Nat} {l : List (Nat × IOp)} {s s' : St} (h : runX ev B l s = some s') : noL B s = true := by
  cases l with
  | nil => simp only [runX] at h; split at h <;> simp_all
  | cons x l => obtain ⟨i, q⟩ := x; simp only [runX] at h; split at h <;> simp_all

theorem runX_cons {B : List Nat} {x : Nat × IOp} {l : List (Nat × IOp)} {s s' : St} : runX ev B (x :: l) s = some s' ↔ noL B s = true ∧ ∃ s1, runG ev x.1 x.2 s = .st s1 ∧ runX ev B l s1 = some s' := by
  obtain ⟨i, q⟩ := x
  simp only [runX]
  split
  · rename_i h
    simp only [h, true_and]
    cases hg : runG ev i q s with
    | st s1 => simp
    | pan v h => simp
    | no => simp
  · rename_i h
    simp [h]

theorem runX_front {B : List Nat} {y : Nat × IOp} {post : List (Nat × IOp)} {s' : St} (hy : bx1 y.2 B = true) : ∀ (pre : List (Nat × IOp)) (s : St), (∀ x ∈ pre, apart x y = true ∧ bx1 x.2 B = true) →
    runX ev B (pre ++ y :: post) s = some s' → runX ev B (y :: (pre ++ post)) s = some s'
  | [], s, _, h => h
  | x :: pre, s, ha, h => by
    rw [List.cons_append, runX_cons] at h
    obtain ⟨n0, s1, hf, h1⟩ := h
    have h2 := runX_front hy pre s1 (fun z hz => ha z (by simp [hz])) h1
    rw [runX_cons] at h2
    obtain ⟨n1, s2, hg, h3⟩ := h2
    obtain ⟨s3, e1, e2, e3⟩ := swap (ha x (by simp)).1 (ha x (by simp)).2 hy n0 (runX_head h3) hf hg
    rw [runX_cons]
    exact ⟨n0, s3, e1, by rw [List.cons_append, runX_cons]; exact ⟨e2, s2, e3, h3⟩⟩

end Go.D
