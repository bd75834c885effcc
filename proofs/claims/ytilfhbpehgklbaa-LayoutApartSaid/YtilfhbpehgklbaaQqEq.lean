/- '==' of structs and arrays of numbers, bools and texts: cell by cell. -/
import Derived.Test.YtilfhbpehgklbaaQqPureB
import Derived.Laws.StructEq
set_option linter.unusedSimpArgs false
set_option linter.unusedVariables false
namespace Go.D

theorem eqV1_int {x y : Value} {r : Bool} (h : eqV1 1 x y = some r) : ∃ j a b, x = .int j a ∧ y = .int j b ∧ r = (a == b) := by
  cases x <;> cases y <;> simp [eqV1] at h
  rename_i j a j' b
  obtain ⟨rfl, rfl⟩ := h
  exact ⟨j, a, b, rfl, rfl, rfl⟩

/-- Values, cell by cell. -/
def eqV : List Nat → List Value → List Value → Option Bool
  | [], [], [] => some true
  | k :: ks, x :: xs, y :: ys => match eqV1 k x y, eqV ks xs ys with | some a, some b => some (a && b) | _, _ => none
  | _, _, _ => none

theorem eqV_split : ∀ (k1 : List Nat) {k2 : List Nat} {xs ys : List Value} {r : Bool}, eqV (k1 ++ k2) xs ys = some r →
    ∃ r1 r2, eqV k1 (xs.take k1.length) (ys.take k1.length) = some r1 ∧ eqV k2 (xs.drop k1.length) (ys.drop k1.length) = some r2 ∧ r = (r1 && r2)
  | [], k2, xs, ys, r, h => ⟨true, r, by simp [eqV], by simpa using h, by simp⟩
  | k :: k1, k2, [], ys, r, h => by simp [eqV] at h
  | k :: k1, k2, x :: xs, [], r, h => by simp [eqV] at h
  | k :: k1, k2, x :: xs, y :: ys, r, h => by
    simp only [List.cons_append, eqV] at h
    cases h1 : eqV1 k x y with
    | none => simp [h1] at h
    | some b =>
      cases he : eqV (k1 ++ k2) xs ys with
      | none => simp [h1, he] at h
      | some q =>
        obtain ⟨r1, r2, e1, e2, e3⟩ := eqV_split k1 he
        simp [h1, he] at h
        exact ⟨b && r1, r2, by simp [eqV, h1, e1], by simpa using e2, by rw [← h, e3, Bool.and_assoc]⟩

theorem eqV_len : ∀ {ks : List Nat} {xs ys : List Value} {r : Bool}, eqV ks xs ys = some r → xs.length = ks.length ∧ ys.length = ks.length
  | [], [], [], _, _ => by simp
  | [], [], _ :: _, r, h => by simp [eqV] at h
  | [], _ :: _, _, r, h => by simp [eqV] at h
  | k :: ks, [], ys, r, h => by simp [eqV] at h
  | k :: ks, x :: xs, [], r, h => by simp [eqV] at h
  | k :: ks, x :: xs, y :: ys, r, h => by
    simp only [eqV] at h
    cases h1 : eqV1 k x y with
    | none => simp [h1] at h
    | some b =>
      cases he : eqV ks xs ys with
      | none => simp [h1, he] at h
      | some q => have := eqV_len he; simp [this]

def flatFs (g : TypeId → Option (List Nat)) (P : Program) : List Field → Nat → Option (List Nat)
  | [], _ => some []
  | f :: fs, off =>
    if f.name = "_" ∨ f.offset ≠ off then none else
    match g f.type, P.info? f.type, flatFs g P fs (off + ((P.info? f.type).map (·.size)).getD 0) with
    | some ks, some i, some r => if i.size = ks.length ∧ 1 ≤ i.size then some (ks ++ r) else none
    | _, _, _ => none

/-- The cells of a type that is compared cell by cell. -/
def flatK (P : Program) : Nat → TypeId → Option (List Nat)
  | 0, _ => none
  | d + 1, t =>
    match P.underlying t with
    | some .bool => some [0]
    | some (.int _) => some [1]
    | some .string => some [2]
    | some (.struct fs) => if P.stoodInHeld t then none else flatFs (flatK P d) P fs.toList 0
    | some (.array n e) => match flatK P d e, P.info? e with
      | some ks, some i => if i.size = ks.length ∧ 1 ≤ i.size then some (List.replicate n ks).flatten else none
      | _, _ => none
    | _ => none

section
variable {P : Program} {w : World}

theorem flatK_agg {d : Nat} {t : TypeId} {ks : List Nat} (h : flatK P d t = some ks) : (aggOf P t = some true) ∨ (aggOf P t = some false ∧ ks.length = 1) := by
  cases d with
  | zero => simp [flatK] at h
  | succ d =>
    simp only [flatK] at h
    split at h <;> first | (simp at h; done) | skip
    · rename_i hu; right; simp at h; subst h; simp [aggOf, hu]
    · rename_i hu; right; simp at h; subst h; simp [aggOf, hu]
    · rename_i hu; right; simp at h; subst h; simp [aggOf, hu]
    · rename_i hu; left; simp [aggOf, hu]
    · rename_i hu; left; simp [aggOf, hu]

theorem part_of {t : TypeId} {i : TypeInfo} (hi : P.info? t = some i) {b : Bool} (ha : aggOf P t = some b) (h1 : b = false → i.size = 1) (l : List Value) (k : Nat) (hl : k + i.size ≤ l.length) :
    (part t l.toArray k).run P w = .ok (if b then .agg ((l.drop k).take i.size).toArray else ((l.drop k).take i.size).headD undef) w := by
  simp only [part, Sem.run_bind, run_isAgg ha, Result.andThen_ok]
  cases b with
  | true => simp only [if_true, Sem.run_bind, run_sizeOf' hi, Result.andThen_ok, Sem.run_pure, extract_part]
  | false =>
    have hn := h1 rfl
    rw [hn] at hl ⊢
    have hk : k < l.length := by omega
    have e : (l.drop k).take 1 = [l[k]] := by rw [List.drop_eq_getElem_cons hk]; rfl
    simp [hk, e]

/-- What a value of that type is, of its cells. -/
def ofL (b : Bool) (l : List Value) : Value := if b then .agg l.toArray else l.headD undef

theorem run_equalIn_array (d : Nat) (t e : TypeId) (n sz : Nat) (i : TypeInfo) (hu : P.underlying t = some (.array n e)) (hi : P.info? e = some i) (hs : i.size = sz) (xs ys : Array Value)
    (f : Nat → Bool) (hf : ∀ j, j < n → ∃ a b, (part e xs (j * sz)).run P w = .ok a w ∧ (part e ys (j * sz)).run P w = .ok b w ∧ (Op.equalIn d e a b).run P w = .ok (f j) w) :
    (Op.equalIn (d + 1) t (.agg xs) (.agg ys)).run P w = .ok ((List.range n).all f) w := by
  simp only [Op.equalIn, Sem.run_bind, run_underlying hu, Result.andThen_ok, run_sizeOf' hi, hs]
  simp only [Std.Legacy.Range.forIn_eq_forIn_range', Std.Legacy.Range.size, Nat.sub_zero, Nat.add_sub_cancel, Nat.div_one]
  have key : ∀ (m k : Nat), k + m = n →
      (Sem.run P (forIn (List.range' k m 1) ((none, ()) : Option Bool × PUnit) (fun j _ => do
        let __do_lift ← part e xs (j * sz)
        let __do_lift_1 ← part e ys (j * sz)
        let __do_lift ← Op.equalIn d e __do_lift __do_lift_1
        if (!__do_lift) = true then pure (ForInStep.done (some false, ())) else pure (ForInStep.yield (none, ())))) w) =
      .ok (if (List.range' k m 1).all f then (none, ()) else (some false, ())) w := by
    intro m
    induction m with
    | zero => intro k _; simp
    | succ m ih =>
      intro k hk
      obtain ⟨a, b, h1, h2, h3⟩ := hf k (by omega)
      simp only [List.range'_succ, List.forIn_cons, Sem.run_bind, h1, h2, h3, Result.andThen_ok, List.all_cons]
      cases hfk : f k with
      | true =>
        simp only [Bool.not_true, Bool.false_eq_true, if_false, Sem.run_pure, Result.andThen_ok, Bool.true_and]
        exact ih (k + 1) (by omega)
      | false => simp
  rw [key n 0 (by omega), List.range_eq_range']
  cases (List.range' 0 n).all f <;> simp

/-- Equal, cell by cell. -/
theorem run_equalIn_flat : ∀ (d : Nat), (∀ (t : TypeId) (ks : List Nat), flatK P d t = some ks → ∀ (d' : Nat), d ≤ d' → ∀ (b : Bool), aggOf P t = some b → ∀ (xs ys : List Value) (r : Bool),
      eqV ks xs ys = some r → (Op.equalIn d' t (ofL b xs) (ofL b ys)).run P w = .ok r w) ∧
    (∀ (fs : List Field) (off : Nat) (ks : List Nat), flatFs (flatK P d) P fs off = some ks → ∀ (d' : Nat), d ≤ d' → ∀ (xs ys : List Value) (r : Bool),
      eqV ks (xs.drop off) (ys.drop off) = some r → (Op.eqFields d' xs.toArray ys.toArray fs).run P w = .ok r w) := by
  have fields : ∀ (d : Nat), (∀ (t : TypeId) (ks : List Nat), flatK P d t = some ks → ∀ (d' : Nat), d ≤ d' → ∀ (b : Bool), aggOf P t = some b → ∀ (xs ys : List Value) (r : Bool),
      eqV ks xs ys = some r → (Op.equalIn d' t (ofL b xs) (ofL b ys)).run P w = .ok r w) → ∀ (fs : List Field) (off : Nat) (ks : List Nat), flatFs (flatK P d) P fs off = some ks → ∀ (d' : Nat), d ≤ d' → ∀ (xs ys : List Value) (r : Bool),
      eqV ks (xs.drop off) (ys.drop off) = some r → (Op.eqFields d' xs.toArray ys.toArray fs).run P w = .ok r w := by
    intro d hd fs
    induction fs with
    | nil =>
      intro off ks hk d' _ xs ys r hr
      simp [flatFs] at hk; subst hk
      have := eqV_len hr
      cases hx : xs.drop off <;> cases hy : ys.drop off <;> simp [hx, hy, eqV] at hr
      subst hr; simp [Op.eqFields]
    | cons f fs ih =>
      intro off ks hk d' hdd xs ys r hr
      simp only [flatFs] at hk
      split at hk
      · simp at hk
      · rename_i hno
        have hname : f.name ≠ "_" := fun e => hno (.inl e)
        have hoff : f.offset = off := Classical.byContradiction fun e => hno (.inr e)
        split at hk
        · rename_i k1 i k2 h1 h2 h3
          split at hk
          · rename_i hsz
            simp at hk; subst hk
            obtain ⟨r1, r2, e1, e2, e3⟩ := eqV_split k1 hr
            obtain ⟨b, hb⟩ : ∃ b, aggOf P f.type = some b := by
              rcases flatK_agg h1 with h | h
              · exact ⟨_, h⟩
              · exact ⟨_, h.1⟩
            have hb1 : b = false → i.size = 1 := by
              rintro rfl
              rcases flatK_agg h1 with h | h
              · rw [hb] at h; simp at h
              · omega
            have hlen := eqV_len hr
            have l1 := eqV_len e1
            simp only [List.length_append, List.length_drop] at hlen
            have hl1 := l1.1
            have hl2 := l1.2
            simp only [List.length_take, List.length_drop] at hl1 hl2
            obtain ⟨hsz, hpos⟩ := hsz
            have p1 := part_of (w := w) h2 hb hb1 xs off (by omega)
            have p2 := part_of (w := w) h2 hb hb1 ys off (by omega)
            have q1 := hd f.type k1 h1 d' hdd b hb ((xs.drop off).take i.size) ((ys.drop off).take i.size) r1 (by rw [hsz]; exact e1)
            have q2 := ih (off + i.size) k2 (by rw [← h3, h2]; rfl) d' hdd xs ys r2 (by rw [← List.drop_drop, ← List.drop_drop, hsz]; exact e2)
            simp only [Op.eqFields, hname, ne_eq, not_false_eq_true, if_true, Sem.run_bind, hoff, p1, p2, Result.andThen_ok]
            unfold ofL at q1
            rw [q1]
            simp only [Result.andThen_ok]
            cases r1
            · simp [e3]
            · simp [q2, e3]
          · simp at hk
        · simp at hk
  intro d
  induction d with
  | zero => exact ⟨fun t ks h => by simp [flatK] at h, fields 0 (fun t ks h => by simp [flatK] at h)⟩
  | succ d ih =>
    have main : ∀ (t : TypeId) (ks : List Nat), flatK P (d + 1) t = some ks → ∀ (d' : Nat), d + 1 ≤ d' → ∀ (b : Bool), aggOf P t = some b → ∀ (xs ys : List Value) (r : Bool),
      eqV ks xs ys = some r → (Op.equalIn d' t (ofL b xs) (ofL b ys)).run P w = .ok r w := by
      intro t ks hk d' hdd b hb xs ys r hr
      obtain ⟨d', rfl⟩ : ∃ m, d' = m + 1 := ⟨d' - 1, by omega⟩
      simp only [flatK] at hk
      split at hk
      · rename_i hu
        simp at hk; subst hk
        have : b = false := by simpa [aggOf, hu] using hb.symm
        subst this
        obtain ⟨h1, h2⟩ := eqV_len hr
        match xs, ys, h1, h2 with
        | [x], [y], _, _ =>
          simp only [eqV] at hr
          cases x <;> cases y <;> simp [eqV1] at hr
          subst hr
          simpa [ofL] using run_equalIn_bool' w d' t _ _ hu
      · rename_i k hu
        simp at hk; subst hk
        have : b = false := by simpa [aggOf, hu] using hb.symm
        subst this
        obtain ⟨h1, h2⟩ := eqV_len hr
        match xs, ys, h1, h2 with
        | [x], [y], _, _ =>
          simp only [eqV] at hr
          cases he : eqV1 1 x y with
          | none => simp [he] at hr
          | some q =>
            simp [he] at hr; subst hr
            obtain ⟨j, x, y, rfl, rfl, rfl⟩ := eqV1_int he
            simpa [ofL] using run_equalIn_int w d' t j k x y hu
      · rename_i hu
        simp at hk; subst hk
        have : b = false := by simpa [aggOf, hu] using hb.symm
        subst this
        obtain ⟨h1, h2⟩ := eqV_len hr
        match xs, ys, h1, h2 with
        | [x], [y], _, _ =>
          simp only [eqV] at hr
          cases x <;> cases y <;> simp [eqV1] at hr
          subst hr
          simpa [ofL] using run_equalIn_string w d' t _ _ hu
      · rename_i fs hu
        split at hk
        · simp at hk
        · rename_i hst
          have : b = true := by simpa [aggOf, hu] using hb.symm
          subst this
          have hf : P.fieldsOf t = fs := by simp [Program.fieldsOf, hu]
          simp only [ofL, if_true]
          rw [run_equalIn_struct w d' t _ _ (by rw [hf]; exact hu) (by simpa using hst), hf]
          exact ih.2 fs.toList 0 ks hk d' (by omega) xs ys r (by simpa using hr)
      · rename_i n e hu
        split at hk
        · rename_i k1 i h1 h2
          split at hk
          · rename_i hsz
            obtain ⟨hsz, hpos⟩ := hsz
            simp at hk; subst hk
            have : b = true := by simpa [aggOf, hu] using hb.symm
            subst this
            obtain ⟨b', hb'⟩ : ∃ b, aggOf P e = some b := by
              rcases flatK_agg h1 with h | h
              · exact ⟨_, h⟩
              · exact ⟨_, h.1⟩
            have hb1 : b' = false → i.size = 1 := by
              rintro rfl
              rcases flatK_agg h1 with h | h
              · rw [hb'] at h; simp at h
              · omega
            -- each element
            have each : ∀ (n : Nat) (xs ys : List Value) (r : Bool), eqV (List.replicate n k1).flatten xs ys = some r →
                ∃ f : Nat → Bool, r = (List.range n).all f ∧ ∀ j, j < n → j * i.size + i.size ≤ xs.length ∧ j * i.size + i.size ≤ ys.length ∧
                  eqV k1 ((xs.drop (j * i.size)).take i.size) ((ys.drop (j * i.size)).take i.size) = some (f j) := by
              intro n
              induction n with
              | zero =>
                intro xs ys r hr
                have := eqV_len hr
                cases xs <;> cases ys <;> simp [eqV] at hr this
                subst hr; exact ⟨fun _ => true, by simp, by simp⟩
              | succ n ihn =>
                intro xs ys r hr
                rw [List.replicate_succ, List.flatten_cons] at hr
                obtain ⟨r1, r2, e1, e2, e3⟩ := eqV_split k1 hr
                obtain ⟨f, hf1, hf2⟩ := ihn _ _ _ e2
                have hl := eqV_len e1
                simp only [List.length_take] at hl
                refine ⟨fun j => match j with | 0 => r1 | j + 1 => f j, ?_, ?_⟩
                · rw [e3, hf1, List.range_succ_eq_map, List.all_cons, List.all_map]; rfl
                · intro j hj
                  cases j with
                  | zero => simp only [Nat.zero_mul, Nat.zero_add, List.drop_zero]; rw [hsz]; exact ⟨by omega, by omega, e1⟩
                  | succ j =>
                    obtain ⟨g1, g2, g3⟩ := hf2 j (by omega)
                    simp only [List.length_drop, List.drop_drop] at g1 g2 g3
                    have e : (j + 1) * i.size = k1.length + j * i.size := by rw [Nat.add_mul]; omega
                    rw [e]
                    exact ⟨by omega, by omega, g3⟩
            obtain ⟨f, hf1, hf2⟩ := each n xs ys r hr
            rw [hf1]
            simp only [ofL, if_true]
            refine run_equalIn_array d' t e n i.size i hu h2 rfl _ _ f ?_
            intro j hj
            obtain ⟨g1, g2, g3⟩ := hf2 j hj
            exact ⟨_, _, part_of (w := w) h2 hb' hb1 xs _ g1, part_of (w := w) h2 hb' hb1 ys _ g2, ih.1 e k1 h1 d' (by omega) b' hb' _ _ _ g3⟩
          · simp at hk
        · simp at hk
      · simp at hk
    exact ⟨main, fields (d + 1) main⟩

end
end Go.D
