/- Steps of the evaluator as equations, for symbolic runs. -/
import Derived.Test.YtilfhbpehgklbaaQqDv
import Derived.Attr
set_option linter.unusedSimpArgs false
set_option linter.unusedVariables false
namespace Go.D

abbrev I (n : Int) : DV := .sc (.int .i64 n)
abbrev U (n : Int) : DV := .sc (.int .u8 n)
abbrev W64 (n : Int) : DV := .sc (.int .u64 n)
abbrev B (b : Bool) : DV := .sc (.bool b)
abbrev S (s : ByteArray) : DV := .sc (.string s)

section
variable {ev : FuncId → List DV → Heap → Res DV} {old : DV} {h : Heap} {N : Nat}

theorem c_mv (x : Bool × DV) : compute ev .mv old [x] h = .ok (hand x) h := rfl
theorem c_pick (m c : Bool) (a b : Bool × DV) : compute ev .pick old [(m, .sc (.bool c)), a, b] h = .ok (if c then hand a else hand b) h := rfl
theorem c_bin (o : BinOp) (m m' : Bool) (x y : Value) : compute ev (.bin o false) old [(m, .sc x), (m', .sc y)] h = match dbin o x y with | some v => .ok (.sc v) h | none => .no := rfl
theorem c_binB (o : BinOp) (m m' : Bool) (x y : Value) : compute ev (.bin o true) old [(m, .sc x), (m', .sc y)] h = match dbinB o x y with | some v => .ok (.sc v) h | none => .no := rfl
theorem c_eqA (ks : List Nat) (neg m m' : Bool) (a b : List DV) : compute ev (.eqA ks neg) old [(m, .agg a), (m', .agg b)] h = match eqL ks a b with | some r => .ok (.sc (.bool (if neg then !r else r))) h | none => .no := rfl
theorem c_un (o : UnOp) (m : Bool) (x : Value) : compute ev (.un o) old [(m, .sc x)] h = match dun o x with | some v => .ok (.sc v) h | none => .no := rfl
theorem c_bx (n : Nat) (x : Bool × DV) : compute ev (.bx n) old [x] h = if (cellsOf (hand x)).length = n then .ok (.box (cellsOf (hand x))) h else .no := rfl
theorem c_hp (n : Nat) (x : Bool × DV) : compute ev (.hp n) old [x] h = if (cellsOf (hand x)).length = n then .ok (.ptr h.length 0) (h ++ [cellsOf (hand x)]) else .no := rfl
theorem c_faB (p off : Nat) (m : Bool) (cs : List DV) : compute ev (.faB p off) old [(m, .box cs)] h = .ok (.lref p off) h := rfl
theorem c_fa1 (off b o : Nat) (m : Bool) : compute ev (.fa off) old [(m, .ptr b o)] h = .ok (.ptr b (o + off)) h := rfl
theorem c_fa2 (off : Nat) (m : Bool) (cs : List DV) : compute ev (.fa off) old [(m, .cptr cs)] h = .ok (.cptr (cs.drop off)) h := rfl
theorem c_fa3 (off p o : Nat) (m : Bool) : compute ev (.fa off) old [(m, .lref p o)] h = .ok (.lref p (o + off)) h := rfl
theorem c_ldB1 (p n q o : Nat) (ag m m' : Bool) (cs : List DV) : compute ev (.ldB p n ag false) old [(m, .lref q o), (m', .box cs)] h =
    if q = p ∧ o + n ≤ cs.length then .ok (strip (ofCells ag ((cs.drop o).take n))) h else .no := rfl
theorem c_ldB1t (p n q o : Nat) (ag m m' : Bool) (cs : List DV) : compute ev (.ldB p n ag true) old [(m, .lref q o), (m', .box cs)] h =
    if q = p ∧ o + n ≤ cs.length then noBox (ofCells ag ((cs.drop o).take n)) h else .no := rfl
theorem c_ldB2 (p n : Nat) (ag m : Bool) (cs : List DV) : compute ev (.ldB p n ag false) old [(m, .box cs)] h = if n ≤ cs.length then .ok (strip (ofCells ag (cs.take n))) h else .no := rfl
theorem c_ldB2t (p n : Nat) (ag m : Bool) (cs : List DV) : compute ev (.ldB p n ag true) old [(m, .box cs)] h = if n ≤ cs.length then noBox (ofCells ag ((cs.drop 0).take n)) h else .no := rfl
theorem c_stB1 (p n q o : Nat) (m : Bool) (x : Bool × DV) (cs : List DV) : compute ev (.stB p n) (.box cs) [(m, .lref q o), x] h =
    if q = p ∧ o + n ≤ cs.length ∧ (cellsOf (hand x)).length = n then .ok (.box (setCells cs o (cellsOf (hand x)))) h else .no := rfl
theorem c_stB2 (p n : Nat) (m : Bool) (x : Bool × DV) (cs cs' : List DV) : compute ev (.stB p n) (.box cs) [(m, .box cs'), x] h =
    if n ≤ cs.length ∧ (cellsOf (hand x)).length = n then .ok (.box (setCells cs 0 (cellsOf (hand x)))) h else .no := rfl
theorem c_ldP1 (n b o : Nat) (ag m : Bool) : compute ev (.ldP n ag false) old [(m, .ptr b o)] h =
    match h[b]? with | some cs => if o + n ≤ cs.length then .ok (strip (ofCells ag ((cs.drop o).take n))) h else .no | none => .no := rfl
theorem c_ldP1t (n b o : Nat) (ag m : Bool) : compute ev (.ldP n ag true) old [(m, .ptr b o)] h =
    match h[b]? with | some cs => if o + n ≤ cs.length then noBox (ofCells ag ((cs.drop o).take n)) (h.set b (setCells cs o (stripL ((cs.drop o).take n)))) else .no | none => .no := rfl
theorem c_ldP2 (n : Nat) (ag tk m : Bool) (cs : List DV) : compute ev (.ldP n ag tk) old [(m, .cptr cs)] h = if n ≤ cs.length then .ok (strip (ofCells ag (cs.take n))) h else .no := rfl
theorem c_stP (n b o : Nat) (m : Bool) (x : Bool × DV) : compute ev (.stP n) old [(m, .ptr b o), x] h =
    match h[b]? with | some cs => if o + n ≤ cs.length ∧ (cellsOf (hand x)).length = n then .ok undefD (h.set b (setCells cs o (cellsOf (hand x)))) else .no | none => .no := rfl
theorem c_ia1 (sz sz' : Nat) (m m' : Bool) (md : Mode) (xs : List DV) (k : IntKind) (i : Int) : compute ev (.ia sz) old [(m, .sl md sz' xs), (m', .sc (.int k i))] h =
    if sz' = sz ∧ 0 ≤ i then match xs[i.toNat]? with | some x => .ok (.cptr (cellsOf x)) h | none => .no else .no := rfl
theorem c_ia2 (sz sz' b off len cap : Nat) (ag m m' : Bool) (k : IntKind) (i : Int) : compute ev (.ia sz) old [(m, .hsl b off len cap sz' ag), (m', .sc (.int k i))] h =
    if sz' = sz ∧ 0 ≤ i ∧ i < (len : Int) then .ok (.ptr b (off + i.toNat * sz)) h else .no := rfl
theorem c_iaB (p len sz : Nat) (m m' : Bool) (cs : List DV) (k : IntKind) (i : Int) : compute ev (.iaB p len sz) old [(m, .box cs), (m', .sc (.int k i))] h = if 0 ≤ i ∧ i < (len : Int) then .ok (.lref p (i.toNat * sz)) h else .no := rfl
theorem c_iaA1 (p o len sz : Nat) (m m' : Bool) (k : IntKind) (i : Int) : compute ev (.iaA len sz) old [(m, .lref p o), (m', .sc (.int k i))] h = if 0 ≤ i ∧ i < (len : Int) then .ok (.lref p (o + i.toNat * sz)) h else .no := rfl
theorem c_iaA2 (b o len sz : Nat) (m m' : Bool) (k : IntKind) (i : Int) : compute ev (.iaA len sz) old [(m, .ptr b o), (m', .sc (.int k i))] h = if 0 ≤ i ∧ i < (len : Int) then .ok (.ptr b (o + i.toNat * sz)) h else .no := rfl
theorem c_iaA3 (len sz : Nat) (m m' : Bool) (cs : List DV) (k : IntKind) (i : Int) : compute ev (.iaA len sz) old [(m, .cptr cs), (m', .sc (.int k i))] h = if 0 ≤ i ∧ i < (len : Int) then .ok (.cptr (cs.drop (i.toNat * sz))) h else .no := rfl
theorem c_ix (len sz : Nat) (ag m m' : Bool) (cs : List DV) (k : IntKind) (i : Int) : compute ev (.ix len sz ag) old [(m, .agg cs), (m', .sc (.int k i))] h =
    if 0 ≤ i ∧ i < (len : Int) ∧ i.toNat * sz + sz ≤ cs.length then .ok (strip (ofCells ag ((cs.drop (i.toNat * sz)).take sz))) h else .no := rfl
theorem c_ixS (m m' : Bool) (s : ByteArray) (k : IntKind) (i : Int) : compute ev .ixS old [(m, .sc (.string s)), (m', .sc (.int k i))] h =
    if 0 ≤ i then match s[i.toNat]? with | some b => .ok (.sc (.int .u8 b.toNat)) h | none => .no else .no := rfl
theorem c_fld (off n : Nat) (ag m : Bool) (cs : List DV) : compute ev (.fld off n ag) old [(m, .agg cs)] h = if off + n ≤ cs.length then .ok (strip (ofCells ag ((cs.drop off).take n))) h else .no := rfl
theorem c_ext (k : Nat) (m : Bool) (cs : List DV) : compute ev (.ext k) old [(m, .tup cs)] h = match cs[k]? with | some x => .ok (strip x) h | none => .no := rfl
theorem c_build (z : List DV) (pl : List (Nat × Nat)) (xs : List (Bool × DV)) : compute ev (.build z pl) old xs h = match fillC z pl (xs.map hand) with | some cs => .ok (.agg cs) h | none => .no := rfl
theorem c_buildSl (sz : Nat) (z : List DV) (pl : List Nat) (xs : List (Bool × DV)) : compute ev (.buildSl sz z pl) old xs h =
    if xs.all (fun x => (cellsOf x.2).length == sz) then match fillEl z pl (stripL (xs.map (·.2))) with | some l => .ok (.sl (if l.isEmpty then .full else .own) sz l) h | none => .no else .no := rfl
theorem c_mkSl (sz bs : Nat) (ag m m' : Bool) (z : List DV) (k k' : IntKind) (n n' : Int) : compute ev (.mkSl sz bs ag z) old [(m, .sc (.int k n)), (m', .sc (.int k' n'))] h =
    if 0 ≤ n ∧ n = n' ∧ n * (bs + sz + 1) ≤ (room : Int) then .ok (.hsl h.length 0 n.toNat n.toNat sz ag) (h ++ [(List.replicate n.toNat z).flatten]) else .no := rfl
theorem c_app_full (sz sz' bs : Nat) (m m' : Bool) (xs : List DV) (y : DV) : compute ev (.app sz bs) old [(m, .sl .full sz' xs), (m', y)] h =
    match elems h y with
    | some (sz'', ys) => if sz' = sz ∧ sz'' = sz ∧ (xs.length + ys.length) * (bs + 1) ≤ room then .ok (.sl (appMode .full ys.isEmpty) sz (xs ++ ys)) h else .no
    | none => .no := rfl
theorem c_app_own (sz sz' bs : Nat) (m' : Bool) (xs : List DV) (y : DV) : compute ev (.app sz bs) old [(true, .sl .own sz' xs), (m', y)] h =
    match elems h y with
    | some (sz'', ys) => if sz' = sz ∧ sz'' = sz ∧ (xs.length + ys.length) * (bs + 1) ≤ room then .ok (.sl .own sz (xs ++ ys)) h else .no
    | none => .no := rfl
theorem c_cpy (sz b off len cap sz' : Nat) (ag m m' : Bool) (y : DV) : compute ev (.cpy sz) old [(m, .hsl b off len cap sz' ag), (m', y)] h =
    match elems h y, h[b]? with
    | some (sz'', ys), some cs =>
      if sz' = sz ∧ sz'' = sz ∧ off + len * sz ≤ cs.length ∧ (ys.take len).all (fun x => (cellsOf x).length == sz) then
        .ok (.sc (.int .i64 (min ys.length len : Nat))) (h.set b (setCells cs off ((ys.take len).flatMap cellsOf)))
      else .no
    | _, _ => .no := rfl
theorem c_len1 (m : Bool) (md : Mode) (sz : Nat) (xs : List DV) : compute ev .len old [(m, .sl md sz xs)] h = .ok (.sc (.int .i64 xs.length)) h := rfl
theorem c_len2 (m : Bool) (b off len cap sz : Nat) (ag : Bool) : compute ev .len old [(m, .hsl b off len cap sz ag)] h = .ok (.sc (.int .i64 len)) h := rfl
theorem c_lenS (m : Bool) (s : ByteArray) : compute ev .lenS old [(m, .sc (.string s))] h = .ok (.sc (.int .i64 s.size)) h := rfl
theorem c_lenA (n : Nat) (x : Bool × DV) : compute ev (.lenA n) old [x] h = .ok (.sc (.int .i64 n)) h := rfl
theorem c_max (m m' : Bool) (k k' : IntKind) (x y : Int) : compute ev .max old [(m, .sc (.int k x)), (m', .sc (.int k' y))] h = .ok (.sc (.int k (if y > x then y else x))) h := rfl
theorem c_min (m m' : Bool) (k k' : IntKind) (x y : Int) : compute ev .min old [(m, .sc (.int k x)), (m', .sc (.int k' y))] h = .ok (.sc (.int k (if y < x then y else x))) h := rfl
theorem c_cvI (m : Bool) (k k' : IntKind) (x : Int) : compute ev (.cvI k) old [(m, .sc (.int k' x))] h = .ok (.sc (.int k (k.wrap x))) h := rfl
theorem c_cvS (m : Bool) (s : ByteArray) : compute ev .cvS old [(m, .sc (.string s))] h = .ok (.sc (.string s)) h := rfl
theorem c_cvSB (m : Bool) (s : ByteArray) : compute ev .cvSB old [(m, .sc (.string s))] h = .ok (.sl .view 1 (ofBytes s.data.toList)) h := rfl
theorem c_mkFn (fn : Fn) (n : Nat) (xs : List (Bool × DV)) : compute ev (.mkFn fn n) old xs h =
    if xs.any (fun x => match x.2 with | .lref .. => true | _ => false) then .no else .ok (.fn fn (stripL ((xs.map (·.2)).take n)) (stripL ((xs.map (·.2)).drop n))) h := rfl
theorem c_call (f : FuncId) (xs : List (Bool × DV)) : compute ev (.call f) old xs h =
    if xs.any (fun x => match x.2 with | .lref .. => true | _ => false) then .no else callP ev f (stripL (xs.map (·.2))) h := rfl
theorem c_callV (m : Bool) (f : FuncId) (first cap : List DV) (xs : List (Bool × DV)) : compute ev .callV old ((m, .fn (.func f) first cap) :: xs) h =
    if xs.any (fun x => match x.2 with | .lref .. => true | _ => false) then .no else callP ev f (first ++ stripL (xs.map (·.2)) ++ cap) h := rfl
theorem c_callQ (f : FuncId) (xs : List (Bool × DV)) : compute ev (.callQ f) old xs h =
    if xs.any (fun x => match x.2 with | .lref .. => true | _ => false) then .no else callQ ev f (stripL (xs.map (·.2))) h := rfl
theorem c_callVQ (m : Bool) (f : FuncId) (first cap : List DV) (xs : List (Bool × DV)) : compute ev .callVQ old ((m, .fn (.func f) first cap) :: xs) h =
    if xs.any (fun x => match x.2 with | .lref .. => true | _ => false) then .no else callQ ev f (first ++ stripL (xs.map (·.2)) ++ cap) h := rfl

theorem c_appH (sz sz' bs : Nat) (ag m m' : Bool) (y : DV) : compute ev (.appH sz bs ag) old [(m, .sl .full sz' []), (m', y)] h =
    match elems h y with
    | some (sz'', ys) =>
      if sz' = sz ∧ sz'' = sz ∧ ys.length * (bs + 1) ≤ room ∧ ys.all (fun x => (cellsOf x).length == sz) then
        if ys.isEmpty then .ok (.sl .view sz []) h else .ok (.hsl h.length 0 ys.length ys.length sz ag) (h ++ [ys.flatMap cellsOf])
      else .no
    | none => .no := rfl
theorem c_mkIf (t : TypeId) (m : Bool) (x : Value) : compute ev (.mkIf t) old [(m, .sc x)] h = .ok (.ifc t (.sc x)) h := by cases m <;> rfl

theorem strip_sc (v : Value) : strip (.sc v) = .sc v := rfl
theorem strip_sl (m : Mode) (sz : Nat) (xs : List DV) : strip (.sl m sz xs) = .sl (vm m) sz xs := rfl
theorem strip_agg (cs : List DV) : strip (.agg cs) = .agg (stripL cs) := rfl
theorem strip_tup (cs : List DV) : strip (.tup cs) = .tup (stripL cs) := rfl
theorem strip_ptr (b o : Nat) : strip (.ptr b o) = .ptr b o := rfl
theorem strip_cptr (cs : List DV) : strip (.cptr cs) = .cptr cs := rfl
theorem strip_hsl (b off len cap sz : Nat) (ag : Bool) : strip (.hsl b off len cap sz ag) = .hsl b off len cap sz ag := rfl
theorem strip_fn (f : Fn) (a b : List DV) : strip (.fn f a b) = .fn f a b := rfl
theorem strip_ifc (t : TypeId) (v : DV) : strip (.ifc t v) = .ifc t (strip v) := rfl
theorem strip_box (cs : List DV) : strip (.box cs) = .junk := rfl
theorem strip_lref (p o : Nat) : strip (.lref p o) = .lref p o := rfl
theorem strip_junk : strip .junk = .junk := rfl
theorem stripL_nil : stripL [] = [] := rfl
theorem stripL_cons (x : DV) (r : List DV) : stripL (x :: r) = strip x :: stripL r := rfl
theorem vm_view : vm .view = .view := rfl
theorem vm_own : vm .own = .view := rfl
theorem vm_full : vm .full = .full := rfl
theorem vm_vm (m : Mode) : vm (vm m) = vm m := by cases m <;> rfl

theorem back_ldB1 (p n o q : Nat) (ag : Bool) (cs : List DV) : back (.ldB p n ag true) (.box cs) (.lref q o) = .box (setCells cs o (stripL ((cs.drop o).take n))) := rfl
theorem back_ldB2 (p n : Nat) (ag : Bool) (cs cs' : List DV) : back (.ldB p n ag true) (.box cs) (.box cs') = .box (setCells cs 0 (stripL ((cs.drop 0).take n))) := rfl
theorem back_sc (op : DOp) (v : Value) (a : DV) : back op (.sc v) a = .sc v := by cases op <;> first | rfl | (rename_i t; cases t <;> rfl)
theorem back_sl (op : DOp) (m : Mode) (sz : Nat) (xs : List DV) (a : DV) : back op (.sl m sz xs) a = .sl (vm m) sz xs := by cases op <;> first | rfl | (rename_i t; cases t <;> rfl)
theorem back_agg (op : DOp) (cs : List DV) (a : DV) : back op (.agg cs) a = .agg (stripL cs) := by cases op <;> first | rfl | (rename_i t; cases t <;> rfl)
theorem back_tup (op : DOp) (cs : List DV) (a : DV) : back op (.tup cs) a = .tup (stripL cs) := by cases op <;> first | rfl | (rename_i t; cases t <;> rfl)
theorem back_hsl (op : DOp) (b off len cap sz : Nat) (ag : Bool) (a : DV) : back op (.hsl b off len cap sz ag) a = .hsl b off len cap sz ag := by cases op <;> first | rfl | (rename_i t; cases t <;> rfl)
theorem back_ptr (op : DOp) (b o : Nat) (a : DV) : back op (.ptr b o) a = .ptr b o := by cases op <;> first | rfl | (rename_i t; cases t <;> rfl)

theorem noBox_sc (v : Value) : noBox (.sc v) h = .ok (.sc v) h := rfl
theorem noBox_sl (m : Mode) (sz : Nat) (xs : List DV) : noBox (.sl m sz xs) h = .ok (.sl m sz xs) h := rfl
theorem noBox_agg (cs : List DV) : noBox (.agg cs) h = .ok (.agg cs) h := rfl
theorem noBox_hsl (b off len cap sz : Nat) (ag : Bool) : noBox (.hsl b off len cap sz ag) h = .ok (.hsl b off len cap sz ag) h := rfl

theorem cells_sc_b (b : Bool) : cellsOf (.sc (.bool b)) = [.sc (.bool b)] := rfl
theorem cells_sc_i (k : IntKind) (n : Int) : cellsOf (.sc (.int k n)) = [.sc (.int k n)] := rfl
theorem cells_sc_s (s : ByteArray) : cellsOf (.sc (.string s)) = [.sc (.string s)] := rfl
theorem cells_sl (m : Mode) (sz : Nat) (xs : List DV) : cellsOf (.sl m sz xs) = [.sl m sz xs] := rfl
theorem cells_agg (cs : List DV) : cellsOf (.agg cs) = cs := rfl
theorem cells_hsl (b off len cap sz : Nat) (ag : Bool) : cellsOf (.hsl b off len cap sz ag) = [.hsl b off len cap sz ag] := rfl
theorem cells_fn (f : Fn) (a b : List DV) : cellsOf (.fn f a b) = [.fn f a b] := rfl
theorem cells_ptr (b o : Nat) : cellsOf (.ptr b o) = [.ptr b o] := rfl
theorem cells_cptr (cs : List DV) : cellsOf (.cptr cs) = [.cptr cs] := rfl

theorem elems_s (s : ByteArray) : elems h (.sc (.string s)) = some (1, ofBytes s.data.toList) := rfl
theorem elems_sl (m : Mode) (sz : Nat) (xs : List DV) : elems h (.sl m sz xs) = some (sz, xs) := rfl
theorem elemsSl_sl (m : Mode) (sz : Nat) (xs : List DV) : elemsSl h (.sl m sz xs) = some (sz, xs) := rfl

theorem isLref_lref (q o p : Nat) : isLref (.lref q o) p = (q == p) := rfl
theorem isLref_sc (v : Value) (p : Nat) : isLref (.sc v) p = false := rfl
theorem isLref_sl (m : Mode) (sz : Nat) (xs : List DV) (p : Nat) : isLref (.sl m sz xs) p = false := rfl
theorem isLref_agg (cs : List DV) (p : Nat) : isLref (.agg cs) p = false := rfl
theorem isLref_tup (cs : List DV) (p : Nat) : isLref (.tup cs) p = false := rfl
theorem isLref_box (cs : List DV) (p : Nat) : isLref (.box cs) p = false := rfl
theorem isLref_junk (p : Nat) : isLref .junk p = false := rfl
theorem isLref_ptr (b o p : Nat) : isLref (.ptr b o) p = false := rfl
theorem isLref_cptr (cs : List DV) (p : Nat) : isLref (.cptr cs) p = false := rfl
theorem isLref_hsl (b off len cap sz : Nat) (ag : Bool) (p : Nat) : isLref (.hsl b off len cap sz ag) p = false := rfl
theorem isLref_fn (f : Fn) (a b : List DV) (p : Nat) : isLref (.fn f a b) p = false := rfl
theorem isLref_ifc (t : TypeId) (v : DV) (p : Nat) : isLref (.ifc t v) p = false := rfl

theorem setCells_cons (x : DV) (cs ys : List DV) (k : Nat) : setCells (x :: cs) (k + 1) ys = x :: setCells cs k ys := by
  simp only [setCells, List.take_succ_cons, List.cons_append]
  rw [show k + 1 + ys.length = (k + ys.length) + 1 by omega, List.drop_succ_cons]
theorem setCells_zero (cs ys : List DV) : setCells cs 0 ys = ys ++ cs.drop ys.length := by simp [setCells]
theorem look_sc (v : Value) : look h (.sc v) = .sc v := rfl
theorem look_sl (m : Mode) (sz : Nat) (xs : List DV) : look h (.sl m sz xs) = .sl m sz xs := rfl
theorem look_agg (cs : List DV) : look h (.agg cs) = .agg (lookL h cs) := rfl
theorem look_tup (cs : List DV) : look h (.tup cs) = .tup (lookL h cs) := rfl
theorem look_junk : look h .junk = .junk := rfl
theorem look_fn (f : Fn) (a b : List DV) : look h (.fn f a b) = .fn f a b := rfl
theorem look_ptr (b o : Nat) : look h (.ptr b o) = .ptr b o := rfl
theorem lookL_nil : lookL h [] = [] := rfl
theorem lookL_cons (x : DV) (r : List DV) : lookL h (x :: r) = look h x :: lookL h r := rfl
theorem free_sc (v : Value) : free (.sc v) = true := rfl
theorem free_sl (m : Mode) (sz : Nat) (xs : List DV) : free (.sl m sz xs) = freeL xs := rfl
theorem free_agg (cs : List DV) : free (.agg cs) = freeL cs := rfl
theorem free_tup (cs : List DV) : free (.tup cs) = freeL cs := rfl
theorem free_ptr (b o : Nat) : free (.ptr b o) = false := rfl
theorem free_fn (f : Fn) (a b : List DV) : free (.fn f a b) = (freeL a && freeL b) := rfl
theorem free_junk : free .junk = true := rfl
theorem freeL_nil : freeL [] = true := rfl
theorem freeL_cons (x : DV) (r : List DV) : freeL (x :: r) = (free x && freeL r) := rfl
theorem hasHs_sc (v : Value) : hasHs (.sc v) = false := rfl
theorem hasHs_sl (m : Mode) (sz : Nat) (xs : List DV) : hasHs (.sl m sz xs) = false := rfl
theorem hasHs_agg (cs : List DV) : hasHs (.agg cs) = hasHsL cs := rfl
theorem hasHs_tup (cs : List DV) : hasHs (.tup cs) = hasHsL cs := rfl
theorem hasHs_ptr (b o : Nat) : hasHs (.ptr b o) = false := rfl
theorem hasHs_fn (f : Fn) (a b : List DV) : hasHs (.fn f a b) = false := rfl
theorem hasHs_hsl (b off len cap sz : Nat) (ag : Bool) : hasHs (.hsl b off len cap sz ag) = true := rfl
theorem hasHsL_nil : hasHsL [] = false := rfl
theorem hasHsL_cons (x : DV) (r : List DV) : hasHsL (x :: r) = (hasHs x || hasHsL r) := rfl
theorem fresh_sc (v : Value) : fresh (.sc v) = true := rfl
theorem fresh_agg (cs : List DV) : fresh (.agg cs) = freshL cs := rfl
theorem fresh_tup (cs : List DV) : fresh (.tup cs) = freshL cs := rfl
theorem fresh_sl (m : Mode) (sz : Nat) (xs : List DV) : fresh (.sl m sz xs) = (xs.isEmpty || (m == .own && freshL xs)) := rfl
theorem freshL_nil : freshL [] = true := rfl
theorem freshL_cons (x : DV) (r : List DV) : freshL (x :: r) = (fresh x && freshL r) := rfl

/-! Calls. -/
theorem call_eq {fns : FuncId → Option FnIR} {d : Nat} {f : FuncId} {fi : FnIR} (hf : fns f = some fi) (args : List DV) : evalCall fns N (d + 1) f args h = evalF (evalCall fns N d) N fi args h := by
  simp [evalCall, hf]

mutual
theorem look_still (h : Heap) : ∀ d : DV, hasHs d = false → look h d = d
  | .hsl .., e => by simp [hasHs] at e
  | .agg cs, e => by simp only [look]; rw [lookL_still h cs (by simpa [hasHs] using e)]
  | .tup cs, e => by simp only [look]; rw [lookL_still h cs (by simpa [hasHs] using e)]
  | .ifc t v, e => by simp only [look]; rw [look_still h v (by simpa [hasHs] using e)]
  | .sc _, _ => rfl
  | .sl .., _ => rfl
  | .ptr .., _ => rfl
  | .cptr _, _ => rfl
  | .fn .., _ => rfl
  | .box _, _ => rfl
  | .lref .., _ => rfl
  | .junk, _ => rfl
theorem lookL_still (h : Heap) : ∀ l : List DV, hasHsL l = false → lookL h l = l
  | [], _ => rfl
  | x :: r, e => by
    simp only [hasHsL, Bool.or_eq_false_iff] at e
    simp only [lookL, look_still h x e.1, lookL_still h r e.2]
end

/-- A call of values without addresses, in whatever heap. -/
theorem callP_of {f : FuncId} {args : List DV} {v : DV} {h' : Heap} (ha : freeL args = true) (hs : hasHsL args = false) (he : ev f args [] = .ok v h') (hv : free (look h' v) = true) :
    callP ev f args h = .ok (look h' v) h := by
  unfold callP
  rw [lookL_still h args hs, if_pos ha, he]
  simp [hv, hs]

/-- .. of which some are slices of the heap. -/
theorem callP_look {f : FuncId} {args args' : List DV} {v : DV} {h' : Heap} (hl : lookL h args = args') (ha : freeL args' = true) (he : ev f args' [] = .ok v h') (hv : free (look h' v) = true) (hf : fresh (look h' v) = true) :
    callP ev f args h = .ok (look h' v) h := by
  unfold callP
  rw [hl, if_pos ha, he]
  simp [hv, hf]

theorem callP_ruin {f : FuncId} {args args' : List DV} {v : DV} {h' : Heap} (hl : lookL h args = args') (ha : freeL args' = true) (hh : hasHsL args = true) (he : ev f args' [] = .ok v h') (hv : free (look h' v) = true) :
    callP ev f args h = .ok (if fresh (look h' v) then look h' v else ruin (look h' v)) h := by
  unfold callP
  rw [hl, if_pos ha, he]
  cases hf : fresh (look h' v) <;> simp [hv, hf, hh]
/-- A call of addresses is done in this heap. -/
theorem callP_ptr {f : FuncId} {args : List DV} (ha : freeL (lookL h args) = false) : callP ev f args h = ev f args h := by
  unfold callP
  rw [ha]
  simp

theorem callQ_of {f : FuncId} {args : List DV} {v : DV} {h' : Heap} (ha : freeL args = true) (hs : hasHsL args = false) (he : ev f args [] = .ok v h') (hv : free (look h' v) = true) :
    callQ ev f args h = .ok (look h' v) h := by
  unfold callQ
  simp [hs, ha, he, hv]

/-- Rounds of a loop, at most. -/
def NN : Nat := 100000

theorem iter_NN (b : St → Ex) (s : St) : iter b NN s = match b s with | .norm s' => iter b 99999 s' | e => e := by
  rw [show NN = 99999 + 1 from rfl]
  rw [iter]
  cases b s <;> simp only []

theorem stripL_map {α : Type} (f : α → DV) (hf : ∀ x, strip (f x) = f x) (l : List α) : stripL (l.map f) = l.map f := by
  induction l with
  | nil => rfl
  | cons x r ih => simp only [List.map_cons, stripL, hf, ih]
theorem freeL_map {α : Type} (f : α → DV) (hf : ∀ x, free (f x) = true) (l : List α) : freeL (l.map f) = true := by
  induction l with
  | nil => rfl
  | cons x r ih => simp only [List.map_cons, freeL, hf, ih, Bool.and_self]
theorem freshL_map {α : Type} (f : α → DV) (hf : ∀ x, fresh (f x) = true) (l : List α) : freshL (l.map f) = true := by
  induction l with
  | nil => rfl
  | cons x r ih => simp only [List.map_cons, freshL, hf, ih, Bool.and_self]

theorem wrap64_id {x : Int} (h1 : -9223372036854775808 ≤ x) (h2 : x ≤ 9223372036854775807) : IntKind.i64.wrap x = x := by
  simp only [IntKind.wrap, IntKind.signed, IntKind.bits, Bool.true_and, ge_iff_le]
  simp only [decide_eq_true_eq]
  split <;> omega
/-- A counter goes on. -/
theorem wrap_succ {k : Nat} (h : k < 4611686018427387904) : IntKind.i64.wrap ((k : Int) + 1) = ((k + 1 : Nat) : Int) := by
  rw [wrap64_id (by omega) (by omega)]; omega

theorem int_beq (a b : Int) : (a == b) = decide (a = b) := by by_cases h : a = b <;> simp [h]
theorem int_bne (a b : Int) : (a != b) = !decide (a = b) := by by_cases h : a = b <;> simp [h]
theorem get_map_some {α β : Type} (f : α → β) (x : α) : (some x).map f = some (f x) := rfl
theorem cast8 : ((8 : Nat) : Int) = 8 := rfl
theorem cast1 : ((1 : Nat) : Int) = 1 := rfl
theorem cast0 : ((0 : Nat) : Int) = 0 := rfl
theorem cast2 : ((2 : Nat) : Int) = 2 := rfl
theorem cast4 : ((4 : Nat) : Int) = 4 := rfl

/-! Rows of numbers. -/
def ints (l : List Int) : List DV := l.map fun n => .sc (.int .i64 n)
def u8s (l : List Int) : List DV := l.map fun n => .sc (.int .u8 n)
theorem len_ints (l : List Int) : (ints l).length = l.length := by simp [ints]
theorem len_u8s (l : List Int) : (u8s l).length = l.length := by simp [u8s]
theorem get_ints (l : List Int) (i : Nat) : (ints l)[i]? = (l[i]?).map fun n => .sc (.int .i64 n) := by simp [ints]
theorem get_u8s (l : List Int) (i : Nat) : (u8s l)[i]? = (l[i]?).map fun n => .sc (.int .u8 n) := by simp [u8s]
theorem app_ints (a b : List Int) : ints a ++ ints b = ints (a ++ b) := by simp [ints]
theorem app_u8s (a b : List Int) : u8s a ++ u8s b = u8s (a ++ b) := by simp [u8s]
theorem strip_ints (l : List Int) : stripL (ints l) = ints l := by
  induction l with
  | nil => rfl
  | cons x r ih => simp only [ints, List.map_cons, stripL, strip] at ih ⊢; rw [ih]
theorem strip_u8s (l : List Int) : stripL (u8s l) = u8s l := by
  induction l with
  | nil => rfl
  | cons x r ih => simp only [u8s, List.map_cons, stripL, strip] at ih ⊢; rw [ih]
theorem free_ints (l : List Int) : freeL (ints l) = true := by
  induction l with
  | nil => rfl
  | cons x r ih => simp only [ints, List.map_cons, freeL, free] at ih ⊢; rw [ih]; rfl
theorem free_u8s (l : List Int) : freeL (u8s l) = true := by
  induction l with
  | nil => rfl
  | cons x r ih => simp only [u8s, List.map_cons, freeL, free] at ih ⊢; rw [ih]; rfl
theorem fresh_ints (l : List Int) : freshL (ints l) = true := by
  induction l with
  | nil => rfl
  | cons x r ih => simp only [ints, List.map_cons, freshL, fresh] at ih ⊢; rw [ih]; rfl
theorem fresh_u8s (l : List Int) : freshL (u8s l) = true := by
  induction l with
  | nil => rfl
  | cons x r ih => simp only [u8s, List.map_cons, freshL, fresh] at ih ⊢; rw [ih]; rfl
theorem drop_ints (l : List Int) (k : Nat) : (ints l).drop k = ints (l.drop k) := by simp [ints]
theorem take_ints (l : List Int) (k : Nat) : (ints l).take k = ints (l.take k) := by simp [ints]
theorem drop_u8s (l : List Int) (k : Nat) : (u8s l).drop k = u8s (l.drop k) := by simp [u8s]
theorem take_u8s (l : List Int) (k : Nat) : (u8s l).take k = u8s (l.take k) := by simp [u8s]
theorem emp_ints (l : List Int) : (ints l).isEmpty = l.isEmpty := by cases l <;> rfl
theorem emp_u8s (l : List Int) : (u8s l).isEmpty = l.isEmpty := by cases l <;> rfl
theorem flat_ints (l : List Int) : (ints l).flatMap cellsOf = ints l := by
  induction l with
  | nil => rfl
  | cons x r ih => simp only [ints, List.map_cons, List.flatMap_cons, cellsOf] at ih ⊢; rw [ih]; rfl
theorem flat_u8s (l : List Int) : (u8s l).flatMap cellsOf = u8s l := by
  induction l with
  | nil => rfl
  | cons x r ih => simp only [u8s, List.map_cons, List.flatMap_cons, cellsOf] at ih ⊢; rw [ih]; rfl
theorem all_ints (l : List Int) : (ints l).all (fun x => (cellsOf x).length == 1) = true := by simp [ints, cellsOf]
theorem all_u8s (l : List Int) : (u8s l).all (fun x => (cellsOf x).length == 1) = true := by simp [u8s, cellsOf]
theorem flat_rep0 (n : Nat) (x : Int) : (List.replicate n [DV.sc (.int .i64 x)]).flatten = ints (List.replicate n x) := by
  induction n with
  | zero => rfl
  | succ n ih => simp only [List.replicate_succ, List.flatten_cons, ih]; rfl
theorem chunks_ints : ∀ (l : List Int), chunks 1 false l.length (ints l) = ints l
  | [] => rfl
  | x :: r => by
    have := chunks_ints r
    simp only [ints, List.map_cons, List.length_cons, chunks, List.take_succ_cons, List.take_zero, List.drop_succ_cons, List.drop_zero, ofCells, Bool.false_eq_true, if_false, List.headD_cons] at this ⊢
    rw [this]
theorem chunks_u8s : ∀ (l : List Int), chunks 1 false l.length (u8s l) = u8s l
  | [] => rfl
  | x :: r => by
    have := chunks_u8s r
    simp only [u8s, List.map_cons, List.length_cons, chunks, List.take_succ_cons, List.take_zero, List.drop_succ_cons, List.drop_zero, ofCells, Bool.false_eq_true, if_false, List.headD_cons] at this ⊢
    rw [this]
/-- A slice of the heap that is a whole row of numbers. -/
theorem look_hsl_ints {l : List Int} {b n cap : Nat} (hb : h[b]? = some (ints l)) (hn : n = l.length) : look h (.hsl b 0 n cap 1 false) = .sl .view 1 (ints l) := by
  subst hn
  have hd : h.getD b [] = ints l := by rw [List.getD_eq_getElem?_getD, hb]; rfl
  simp only [look, hd, len_ints, hsElems, List.drop_zero, Nat.mul_one]
  rw [List.take_of_length_le (by rw [len_ints]; exact Nat.le_refl _), chunks_ints, strip_ints]
  simp
theorem look_hsl_u8s {l : List Int} {b n cap : Nat} (hb : h[b]? = some (u8s l)) (hn : n = l.length) : look h (.hsl b 0 n cap 1 false) = .sl .view 1 (u8s l) := by
  subst hn
  have hd : h.getD b [] = u8s l := by rw [List.getD_eq_getElem?_getD, hb]; rfl
  simp only [look, hd, len_u8s, hsElems, List.drop_zero, Nat.mul_one]
  rw [List.take_of_length_le (by rw [len_u8s]; exact Nat.le_refl _), chunks_u8s, strip_u8s]
  simp
theorem set_ints {l : List Int} {i : Nat} (x : Int) (hi : i < l.length) : setCells (ints l) i [.sc (.int .i64 x)] = ints (l.set i x) := by
  simp only [setCells, ints, List.length_cons, List.length_nil, Nat.zero_add]
  rw [List.set_eq_take_append_cons_drop, if_pos hi]
  simp
theorem set_u8s {l : List Int} {i : Nat} (x : Int) (hi : i < l.length) : setCells (u8s l) i [.sc (.int .u8 x)] = u8s (l.set i x) := by
  simp only [setCells, u8s, List.length_cons, List.length_nil, Nat.zero_add]
  rw [List.set_eq_take_append_cons_drop, if_pos hi]
  simp

attribute [go_sem] c_mv c_pick c_bin c_binB c_eqA c_un c_bx c_hp c_faB c_fa1 c_fa2 c_fa3 c_ldB1 c_ldB1t c_ldB2 c_ldB2t c_stB1 c_stB2 c_ldP1 c_ldP1t c_ldP2 c_stP c_ia1 c_ia2 c_iaB c_iaA1 c_iaA2 c_iaA3 c_ix c_ixS c_fld c_ext c_build c_buildSl c_mkSl c_app_full c_app_own c_cpy c_len1 c_len2 c_lenS c_lenA c_max c_min c_cvI c_cvS c_cvSB c_mkFn c_call c_callV c_callQ c_callVQ c_appH c_mkIf strip_sc strip_sl strip_agg strip_tup strip_ptr strip_cptr strip_hsl strip_fn strip_ifc strip_box strip_lref strip_junk stripL_nil stripL_cons vm_view vm_own vm_full back_ldB1 back_ldB2 back_sc back_sl back_agg back_tup back_hsl back_ptr noBox_sc noBox_sl noBox_agg noBox_hsl cells_sc_b cells_sc_i cells_sc_s cells_sl cells_agg cells_hsl cells_fn cells_ptr cells_cptr elems_s elems_sl elemsSl_sl isLref_lref isLref_sc isLref_sl isLref_agg isLref_tup isLref_box isLref_junk isLref_ptr isLref_cptr isLref_hsl isLref_fn isLref_ifc look_sc look_sl look_agg look_tup look_junk look_fn look_ptr lookL_nil lookL_cons free_sc free_sl free_agg free_tup free_ptr free_fn free_junk freeL_nil freeL_cons hasHs_sc hasHs_sl hasHs_agg hasHs_tup hasHs_ptr hasHs_fn hasHs_hsl hasHsL_nil hasHsL_cons fresh_sc fresh_agg fresh_tup fresh_sl freshL_nil freshL_cons len_ints len_u8s get_ints get_u8s app_ints app_u8s strip_ints strip_u8s free_ints free_u8s fresh_ints fresh_u8s drop_ints take_ints drop_u8s take_u8s emp_ints emp_u8s flat_ints flat_u8s all_ints all_u8s flat_rep0 vm_vm evalF evalC runL runX runG runOp readS moveS writeD oldD boxOk DOp.dst hand noL bxs idx resAll resOf outOf ofCells undefD dbin dbinB dun eqL eqV1 fillC fillEl appMode
attribute [go_sem] List.length_replicate List.length_set set_ints set_u8s setCells_cons setCells_zero List.drop_replicate List.take_length Nat.sub_self Nat.min_self int_beq int_bne cast8 cast1 cast0 cast2 cast4
attribute [go_sem] undef
attribute [go_sem] List.map_cons List.map_nil List.foldl_cons List.foldl_nil List.headD_cons List.length_cons List.length_nil List.any_cons List.any_nil List.all_cons List.all_nil List.getD_cons_zero List.getD_cons_succ List.set_cons_zero List.set_cons_succ List.cons_append List.nil_append List.replicate_succ List.replicate_zero List.take_succ_cons List.take_zero List.drop_succ_cons List.drop_zero List.getElem?_cons_zero List.getElem?_cons_succ List.take_nil List.drop_nil if_true if_false Bool.false_eq_true Bool.true_eq_false Bool.or_false Bool.or_true Bool.and_true Bool.and_false Bool.true_and Bool.false_and Bool.false_or Bool.true_or Bool.not_false Bool.not_true beq_self_eq_true Nat.zero_add Nat.add_zero and_self and_true true_and ite_self Option.getD_some Option.getD_none Option.map_some Option.map_none eq_self Nat.le_refl List.isEmpty_nil List.isEmpty_cons and_false false_and List.append_nil Nat.one_mul Nat.mul_one ge_iff_le gt_iff_lt decide_eq_true_eq decide_true decide_false ne_eq not_true_eq_false not_false_eq_true Bool.not_eq_true' Bool.not_eq_eq_eq_not decide_eq_false_iff_not Int.toNat_natCast Int.natCast_nonneg Int.le_refl

end
end Go.D
