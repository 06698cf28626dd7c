/-
  Following a run: slots, growing lists, calls; what the simplifier knows.
-/
import Derived.Test.YtnifldbmflkmpaaEvQ
namespace Go.Proofs.Ytnifldbmflkmpaa.Ev
open Go
set_option linter.unusedVariables false
set_option linter.unusedSimpArgs false

theorem stripL_map {α : Type} (f : α → AV) (hf : ∀ a, (f a).strip = f a) : ∀ l : List α, stripL (l.map f) = l.map f
  | [] => by simp only [List.map_nil, stripL]
  | a :: l => by simp only [List.map_cons, stripL, hf a, stripL_map f hf l]
theorem cleanL_map {α : Type} (n : Nat) (f : α → AV) (hf : ∀ a, (f a).clean n = true) : ∀ l : List α, cleanL n (l.map f) = true
  | [] => by simp only [List.map_nil, cleanL]
  | a :: l => by simp only [List.map_cons, cleanL, hf a, cleanL_map n f hf l, Bool.and_self]
@[simp] theorem strip_str (s : List UInt8) : (AV.str s).strip = .str s := by simp only [AV.strip]
@[simp] theorem strip_int (k : IntKind) (n : Int) : (AV.int k n).strip = .int k n := by simp only [AV.strip]
@[simp] theorem strip_bool (b : Bool) : (AV.bool b).strip = .bool b := by simp only [AV.strip]
@[simp] theorem strip_func (fn : Fn) (a b : List AV) : (AV.func fn a b).strip = .func fn (stripL a) (stripL b) := by simp only [AV.strip]
@[simp] theorem strip_agg (l : List AV) : (AV.agg l).strip = .agg (stripL l) := by simp only [AV.strip]
@[simp] theorem strip_tuple (l : List AV) : (AV.tuple l).strip = .tuple (stripL l) := by simp only [AV.strip]
@[simp] theorem strip_nilp : AV.nilp.strip = .nilp := by simp only [AV.strip]
@[simp] theorem strip_nilFunc : AV.nilFunc.strip = .nilFunc := by simp only [AV.strip]
@[simp] theorem strip_nilIface : AV.nilIface.strip = .nilIface := by simp only [AV.strip]
@[simp] theorem strip_rptr (v : AV) : (AV.rptr v).strip = .rptr v.strip := by simp only [AV.strip]
@[simp] theorem strip_iface (t : TypeId) (v : AV) : (AV.iface t v).strip = .iface t v.strip := by simp only [AV.strip]
@[simp] theorem clean_str (n : Nat) (s : List UInt8) : (AV.str s).clean n = true := by simp only [AV.clean]
@[simp] theorem clean_int (m : Nat) (k : IntKind) (n : Int) : (AV.int k n).clean m = true := by simp only [AV.clean]
@[simp] theorem clean_bool (m : Nat) (b : Bool) : (AV.bool b).clean m = true := by simp only [AV.clean]
@[simp] theorem clean_nils (m : Nat) : AV.nils.clean m = true := by simp only [AV.clean]
@[simp] theorem clean_nilp (m : Nat) : AV.nilp.clean m = true := by simp only [AV.clean]
@[simp] theorem clean_nilFunc (m : Nat) : AV.nilFunc.clean m = true := by simp only [AV.clean]
@[simp] theorem clean_nilIface (m : Nat) : AV.nilIface.clean m = true := by simp only [AV.clean]
@[simp] theorem clean_func (n : Nat) (fn : Fn) (a b : List AV) : (AV.func fn a b).clean n = (cleanL n a && cleanL n b) := by simp only [AV.clean]
@[simp] theorem clean_agg (n : Nat) (l : List AV) : (AV.agg l).clean n = cleanL n l := by simp only [AV.clean]
@[simp] theorem clean_tuple (n : Nat) (l : List AV) : (AV.tuple l).clean n = cleanL n l := by simp only [AV.clean]
@[simp] theorem clean_list (n : Nat) (xs : List AV) (nn : Bool) (c : Option Nat) : (AV.list xs nn c none).clean n = cleanL n xs := by simp only [AV.clean, Bool.and_true]
@[simp] theorem strip_nils : AV.nils.strip = .L [] := by simp only [AV.strip]
@[simp] theorem strip_list (xs : List AV) (nn : Bool) (c t : Option Nat) : (AV.list xs nn c t).strip = .list (stripL xs) false none none := by simp only [AV.strip]
@[simp] theorem stripL_nil : stripL [] = [] := by simp only [stripL]
@[simp] theorem stripL_cons (x : AV) (l : List AV) : stripL (x :: l) = x.strip :: stripL l := by simp only [stripL]
@[simp] theorem cleanL_nil (n : Nat) : cleanL n [] = true := by simp only [cleanL]
@[simp] theorem cleanL_cons (n : Nat) (x : AV) (l : List AV) : cleanL n (x :: l) = (x.clean n && cleanL n l) := by simp only [cleanL]
@[simp] theorem stripL_strs (ss : List (List UInt8)) : stripL (ss.map AV.str) = ss.map AV.str := stripL_map _ strip_str ss
@[simp] theorem cleanL_strs (n : Nat) (ss : List (List UInt8)) : cleanL n (ss.map AV.str) = true := cleanL_map n _ (clean_str n) ss

/-- A list of texts; a list of lists of texts. -/
def strs (ss : List (List UInt8)) : AV := .L (ss.map .str)
@[simp] theorem strip_strs (ss : List (List UInt8)) : (strs ss).strip = strs ss := by simp only [strs, strip_list, stripL_strs]
@[simp] theorem clean_strs (n : Nat) (ss : List (List UInt8)) : (strs ss).clean n = true := by simp only [strs, clean_list, cleanL_strs]
@[simp] theorem stripL_strss (ss : List (List (List UInt8))) : stripL (ss.map strs) = ss.map strs := stripL_map _ strip_strs ss
@[simp] theorem cleanL_strss (n : Nat) (ss : List (List (List UInt8))) : cleanL n (ss.map strs) = true := cleanL_map n _ (clean_strs n) ss
def strss (ss : List (List (List UInt8))) : AV := .L (ss.map strs)
@[simp] theorem strip_strss (ss : List (List (List UInt8))) : (strss ss).strip = strss ss := by simp only [strss, strip_list, stripL_strss]
@[simp] theorem clean_strss (n : Nat) (ss : List (List (List UInt8))) : (strss ss).clean n = true := by simp only [strss, clean_list, cleanL_strss]

/-- What lies in a slot. -/
def slotAt (fr : List AV) (t : Nat) : Option AV := fr[t]?
theorem slotAt_set (fr : List AV) (i j : Nat) (v : AV) : slotAt (fr.set i v) j = if i = j then (if i < fr.length then some v else none) else slotAt fr j := by
  unfold slotAt
  rw [List.getElem?_set]
theorem slotAt_zero (a : AV) (l : List AV) : slotAt (a :: l) 0 = some a := rfl
theorem slotAt_succ (a : AV) (l : List AV) (n : Nat) : slotAt (a :: l) (n + 1) = slotAt l n := rfl
theorem slotAt_rep (n j : Nat) (v : AV) : slotAt (List.replicate n v) j = if j < n then some v else none := by
  unfold slotAt
  rw [List.getElem?_replicate]
attribute [simp] slotAt_set slotAt_zero slotAt_succ slotAt_rep
@[simp] theorem op_tmp (fr : List AV) (t : Nat) : evalOperand fr (.tmp t) = slotAt fr t := rfl
@[simp] theorem op_const (fr : List AV) (v : Value) : evalOperand fr (.const v) = ofConst v := rfl
@[simp] theorem op_func (fr : List AV) (f : FuncId) : evalOperand fr (.func f) = some (.func (.func f) [] []) := rfl
@[simp] theorem res_tmp (P : Program) (fr : List AV) (h : Heap) (t : Nat) : resultA P fr h (.tmp t) = slotAt fr t := rfl
@[simp] theorem res_cell (P : Program) (fr : List AV) (h : Heap) (a : Nat) (t : TypeId) : resultA P fr h (.cell a t) = match slotAt fr a with | some v => loadA P t h v | none => none := rfl
@[simp] theorem yielded_look (ops : Array Oper) (fr : List AV) (j : Nat) : yieldedA ops fr j = match ((ops[j]?).bind (·.dst)).bind (slotAt fr ·) with | some (.bool b) => some b | _ => none := rfl
attribute [simp] evalOps stepOp Region.wanted evalOp St.put ofConst ofCell indexAddrA indexA loadA storeA partA fieldA fieldAddrA binA strBin wrapBin shiftA eqA unA lenA convA boundsA intOf? AV.cells AV.one AV.undef onNormal onBlock Done resultsA cls
@[simp] theorem headOk_strs (l : List (List UInt8)) : headOk 1 (l.map .str) = true := by cases l <;> rfl
@[simp] theorem headOk_strss (l : List (List (List UInt8))) : headOk 1 (l.map strs) = true := by cases l <;> rfl
@[simp] theorem headOk_nil (n : Nat) : headOk n [] = true := rfl
@[simp] theorem headOk_cons (n : Nat) (x : AV) (l : List AV) : headOk n (x :: l) = (x.cells.length == n) := rfl
@[simp] theorem nat_le1 (n : Nat) : ((1 : Int) ≤ (n : Int) + 1) = True := eq_true (by omega)
@[simp] theorem nat_le0 (n : Nat) : ((0 : Int) ≤ (n : Int) + 1) = True := eq_true (by omega)
@[simp] theorem nat_lt0 (n : Nat) : ((0 : Int) < (n : Int) + 1) = True := eq_true (by omega)
@[simp] theorem nat_ne0 (n : Nat) : (((n : Int) + 1) = 0) = False := eq_false (by omega)
@[simp] theorem nat_beq0 (n : Nat) : (((n : Int) + 1) == 0) = false := by simp
@[simp] theorem take_map_len {α β : Type} (f : α → β) (l : List α) : (l.map f).take l.length = l.map f := List.take_of_length_le (by simp)

theorem wrap_nat (n : Nat) (h : n < 2 ^ 62) : IntKind.wrap .i64 (n : Int) = n := by
  simp [IntKind.wrap, IntKind.bits, IntKind.signed]; omega
theorem wrap_succ (n : Nat) (h : n < 2 ^ 61) : IntKind.wrap .i64 ((n : Int) + 1) = ((n + 1 : Nat) : Int) := by
  rw [← wrap_nat (n + 1) (by omega)]; simp
theorem wrap_int (n : Int) (h0 : -(2 ^ 62) ≤ n) (h : n < 2 ^ 62) : IntKind.wrap .i64 n = n := by
  simp [IntKind.wrap, IntKind.bits, IntKind.signed]; omega

/-- A list that grows by append. -/
def Grow (n : Nat) (h : Heap) (x : AV) (xs : List AV) : Prop :=
  (x = .nils ∧ xs = []) ∨ (∃ τ, x = .list xs true none (some τ) ∧ h[τ]? = some (.own xs.length n)) ∨ (∃ nn, x = .list xs nn (some xs.length) none)
theorem Grow.nils (n : Nat) (h : Heap) : Grow n h .nils [] := .inl ⟨rfl, rfl⟩
theorem Grow.strip {n : Nat} {h : Heap} {x : AV} {xs : List AV} (g : Grow n h x xs) : x.strip = .L (stripL xs) := by
  rcases g with ⟨rfl, rfl⟩ | ⟨τ, rfl, _⟩ | ⟨nn, rfl⟩ <;> simp
def tokOf : AV → Option Nat
  | .list _ _ _ tok => tok
  | _ => none
/-- What stays when a list grows: all but its own right. -/
structure Stays (x : AV) (h : Heap) (x' : AV) (h' : Heap) : Prop where
  len : h.length ≤ h'.length
  old : ∀ i, i < h.length → tokOf x ≠ some i → h'[i]? = h[i]?
  tok : tokOf x' = tokOf x ∨ ∀ i, tokOf x' = some i → h.length ≤ i

theorem Grow.stays {n : Nat} {h h' : Heap} {x x' y : AV} {xs : List AV} (g : Grow n h y xs) (s : Stays x h x' h') (ht : ∀ i, tokOf y = some i → tokOf x ≠ some i) : Grow n h' y xs := by
  rcases g with g | ⟨τ, rfl, e⟩ | g
  · exact .inl g
  · refine .inr (.inl ⟨τ, rfl, ?_⟩)
    rw [s.old τ (List.getElem?_eq_some_iff.1 e).1 (ht τ rfl)]
    exact e
  · exact .inr (.inr g)

theorem appendA_grow {P : Program} {t u e : TypeId} {n by_ : Nat} {z : AV} {ud : TypeDesc} (ht : P.underlying t = some (.slice e)) (hu : P.underlying u = some ud) (hud : appendable ud = true) (hn : tySize P e = some n) (hb : tyBytes P e = some by_) (hz : tyZero P e = some z) (hzn : z.cells.length = n)
    {h : Heap} {x y : AV} {xs ys : List AV} (g : Grow n h x xs) (hx : headOk n xs = true) (hy : elemsA h n y = some ys) (hlim : (xs.length + ys.length) * by_ ≤ 35184372088832 ∧ xs.length + ys.length ≤ 35184372088832) :
    ∃ x' h' wr, appendA P [t, u] h x y = some (x', h', wr) ∧ Grow n h' x' (xs ++ ys) ∧ Stays x h x' h' ∧ wrDirty 0 wr = false := by
  unfold appendA
  simp only [ht, hu, hud, hn, hb, hz, hy, hzn]
  simp only [ne_eq, not_true, if_false, reduceCtorEq]
  rcases g with ⟨rfl, rfl⟩ | ⟨τ, rfl, hτ⟩ | ⟨nn, rfl⟩
  · simp only [List.length_nil, Nat.zero_add, List.nil_append] at hlim ⊢
    by_cases he : ys.isEmpty = true
    · rw [if_pos he]
      have : ys = [] := List.isEmpty_iff.1 he
      subst this
      exact ⟨_, _, _, rfl, Grow.nils _ _, ⟨Nat.le_refl _, fun _ _ _ => rfl, .inl rfl⟩, rfl⟩
    · rw [if_neg he, if_pos hlim]
      refine ⟨_, _, _, rfl, .inr (.inl ⟨_, rfl, by simp⟩), ⟨by simp, fun i hi _ => by rw [List.getElem?_append_left hi], .inr fun i hi => ?_⟩, rfl⟩
      simp only [tokOf, Option.some.injEq] at hi
      omega
  · by_cases he : ys.isEmpty = true
    · simp only [if_pos he]
      have : ys = [] := List.isEmpty_iff.1 he
      subst this
      exact ⟨_, _, _, rfl, .inr (.inl ⟨τ, by simp, by simpa using hτ⟩), ⟨Nat.le_refl _, fun _ _ _ => rfl, .inl rfl⟩, rfl⟩
    · simp only [if_neg he, hlim, and_self, not_true, if_false, hx, hτ, reduceCtorEq]
      refine ⟨_, _, _, rfl, .inr (.inl ⟨τ, rfl, ?_⟩), ⟨by simp, fun i hi hne => ?_, .inl rfl⟩, by simp [wrDirty]⟩
      · rw [List.getElem?_set_self (List.getElem?_eq_some_iff.1 hτ).1, List.length_append]
      · rw [List.getElem?_set_ne]
        intro e
        exact hne (by simp [tokOf, e])
  · by_cases he : ys.isEmpty = true
    · simp only [if_pos he]
      have : ys = [] := List.isEmpty_iff.1 he
      subst this
      exact ⟨_, _, _, rfl, .inr (.inr ⟨nn, by simp⟩), ⟨Nat.le_refl _, fun _ _ _ => rfl, .inl rfl⟩, rfl⟩
    · simp only [if_neg he, hlim, and_self, not_true, if_false, hx, if_true, reduceCtorEq]
      refine ⟨_, _, _, rfl, .inr (.inl ⟨_, rfl, by simp⟩), ⟨by simp, fun i hi _ => by rw [List.getElem?_append_left hi], .inr fun i hi => ?_⟩, rfl⟩
      simp only [tokOf, Option.some.injEq] at hi
      omega

/-- Operations without a call; of the slots behind them K is kept. -/
theorem EvOps.keep {C : Cfg} {base : Nat} {ops : Array Oper} {l : List Oper} {st : St} {fr' : List AV} {h' : Heap} {d' : Bool} {Q : St → Prop} (K : List AV → Prop) (h : ∀ call, evalOps C call base ops l st = some ⟨fr', h', d'⟩) (hk : K fr') (hq : ∀ fr, K fr → Q ⟨fr, h', d'⟩) : EvOps C base ops l st Q :=
  EvOps.run h (hq fr' hk)

/-- append, of a list that grows. -/
theorem EvOps.append {C : Cfg} {ops : Array Oper} {o : Oper} {l : List Oper} {st : St} {Q : St → Prop} {args : Array Operand} {ts : Array TypeId} {t u e : TypeId} {n by_ : Nat} {z : AV} {ud : TypeDesc} {x y : AV} {xs ys : List AV}
    (hop : o.op = .call ⟨.builtin .append, args, ts⟩) (hts : ts = #[t, u]) (hw : Region.wanted o (yieldedA ops st.fr) = true) (hargs : args.toList.mapM (evalOperand st.fr) = some [x, y])
    (ht : C.P.underlying t = some (.slice e)) (hu : C.P.underlying u = some ud) (hud : appendable ud = true) (hn : tySize C.P e = some n) (hb : tyBytes C.P e = some by_) (hz : tyZero C.P e = some z) (hzn : z.cells.length = n)
    (g : Grow n st.h x xs) (hx : headOk n xs = true) (hy : elemsA st.h n y = some ys) (hlim : (xs.length + ys.length) * by_ ≤ 35184372088832 ∧ xs.length + ys.length ≤ 35184372088832)
    (hq : ∀ x' h', Grow n h' x' (xs ++ ys) → Stays x st.h x' h' → EvOps C 0 ops l (St.put ⟨st.fr, h', st.d⟩ o.dst x') Q) : EvOps C 0 ops (o :: l) st Q := by
  obtain ⟨x', h', wr, e1, e2, e3, e4⟩ := appendA_grow ht hu hud hn hb hz hzn g hx hy hlim
  refine EvOps.one (st' := St.put ⟨st.fr, h', st.d⟩ o.dst x') (fun call => ?_) (hq x' h' e2 e3)
  subst hts
  have : evalOp C call 0 o (evalOperand st.fr) st.h st.d = some (x', h', st.d) := by
    unfold evalOp
    simp only [hop, hargs, e1, Option.map_some, e4, Bool.or_false]
  unfold stepOp
  rw [if_pos hw]
  simp only [this]

/-- A call of a value that is a function. -/
theorem EvOps.callv {C : Cfg} {base : Nat} {ops : Array Oper} {o : Oper} {l : List Oper} {st : St} {Q : St → Prop} {f : Operand} {g : FuncId} {first captured : List AV} {args : Array Operand} {ts : Array TypeId} {vs as : List AV} {v : AV}
    (hop : o.op = .call ⟨.value f, args, ts⟩) (hf : evalOperand st.fr f = some (.func (.func g) first captured)) (hw : Region.wanted o (yieldedA ops st.fr) = true) (hargs : args.toList.mapM (evalOperand st.fr) = some vs) (hs : stripL (first ++ vs ++ captured) = as) (hr : Ret C g as v)
    (hq : EvOps C base ops l (St.put ⟨st.fr, st.h, st.d⟩ o.dst v) Q) : EvOps C base ops (o :: l) st Q := by
  obtain ⟨k, hk⟩ := hr
  obtain ⟨n, s, h1, h2⟩ := hq
  refine ⟨max n k, s, ?_, h2⟩
  have hstep : stepOp C (evalF C (max n k)) base ops o st = some (St.put ⟨st.fr, st.h, st.d⟩ o.dst v) := by
    have hc := callF_mono (C := C) (evalF_mono (Nat.le_max_right n k)) (hk _ hs st.h st.d)
    unfold stepOp
    rw [if_pos hw]
    unfold evalOp
    simp only [hop, hargs, hf, hc]
  rw [evalOps, hstep]
  exact evalOps_mono (evalF_mono (Nat.le_max_left _ _)) h1

theorem Ret.of_eval {C : Cfg} {f : FuncId} {as : List AV} {v v0 : AV} {k : Nat} {h' : Heap} {d' : Bool} (hp : C.prim f = none) (hm : C.mode f = .pure) (hcl : cleanL 0 as = true) (hv : v.clean 0 = true)
    (he : evalF C k f as [] = some (v0, h', d')) (hs : v0.strip = v) : Ret C f as v :=
  ⟨k, fun vs e h d => by unfold callF; simp only [hp, hm, e, if_pos hcl, he, hs, if_pos hv]⟩

/-- The operations ahead of one that is taken by a rule of its own. -/
theorem EvOps.cut {C : Cfg} {base : Nat} {ops : Array Oper} {l1 l2 : List Oper} {st : St} {Q : St → Prop} (h : EvOps C base ops l1 st (fun s => EvOps C base ops l2 s Q)) : EvOps C base ops (l1 ++ l2) st Q := by
  obtain ⟨n, s, h1, n', s', h2, h3⟩ := h
  refine ⟨max n n', s', ?_, h3⟩
  have key : ∀ (l1 : List Oper) (st : St) (call : CallFn), evalOps C call base ops l1 st = some s → evalOps C call base ops (l1 ++ l2) st = evalOps C call base ops l2 s := by
    intro l1
    induction l1 with
    | nil => intro st call e; simp only [evalOps, Option.some.injEq] at e; subst e; rfl
    | cons o l ih =>
      intro st call e
      simp only [List.cons_append, evalOps] at e ⊢
      split at e
      · exact ih _ _ e
      · cases e
  rw [key l1 st _ (evalOps_mono (evalF_mono (Nat.le_max_left _ _)) h1)]
  exact evalOps_mono (evalF_mono (Nat.le_max_right _ _)) h2
/-- The first k operations. -/
theorem EvOps.take (k : Nat) {C : Cfg} {base : Nat} {ops : Array Oper} {l : List Oper} {st : St} {Q : St → Prop} (h : EvOps C base ops (l.take k) st (fun s => EvOps C base ops (l.drop k) s Q)) : EvOps C base ops l st Q := by
  have := EvOps.cut h
  rwa [List.take_append_drop] at this

end Go.Proofs.Ytnifldbmflkmpaa.Ev
