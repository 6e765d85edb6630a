/- A part of the proof over this seat's program: the checked evaluator and its soundness (E..), and what it gives here (the others). No condition. -/
import Derived.Test.YtnljmpeaeajcoaaGreatDoorG2
import Derived.Laws.StructEq
set_option linter.unusedSectionVars false
namespace Go.Eng
open Go

variable [Mode]
/-- what stands still: the first cells of blocks of the heap -/
abbrev Still := Nat → Option (List Value)
def Still.le (y z : Still) : Prop := ∀ B l, y B = some l → z B = some l
mutual
inductive DRel (Z : Still) : Dat → Value → Prop
  | bool (b : Bool) : DRel Z (.bool b) (.bool b)
  | int (k : IntKind) (n : Int) : DRel Z (.int k n) (.int k n)
  | str (l : List UInt8) : DRel Z (.str l.length (enc l)) (.string ⟨⟨l⟩⟩)
  | nilPtr : DRel Z .nilPtr (.pointer none)
  | nilMap : DRel Z .nilMap (.map none)
  | nilFunc : DRel Z .nilFunc .nilFunc
  | nilIface : DRel Z .nilIface .nilIface
  | none (sz : Nat) (el : Nat → List Dat) : DRel Z (.slice 0 sz el) (.slice none 0 0)
  | slice (n sz : Nat) (el : Nat → List Dat) (B o cap : Nat) (l : List Value) (hz : Z B = some l) (hc : n ≤ cap) (hl : o + n * sz ≤ l.length)
      (h : ∀ i, i < n → DsRel Z (el i) ((l.drop (o + i * sz)).take sz)) : DRel Z (.slice n sz el) (.slice (some ⟨B, o, none⟩) n cap)
inductive DsRel (Z : Still) : List Dat → List Value → Prop
  | nil : DsRel Z [] []
  | cons (a : Dat) (v : Value) (as : List Dat) (vs : List Value) (h : DRel Z a v) (hs : DsRel Z as vs) : DsRel Z (a :: as) (v :: vs)
end
mutual
theorem DRel.mono {Y Z : Still} (h : Y.le Z) : ∀ {a v}, DRel Y a v → DRel Z a v
  | _, _, .bool b => .bool b
  | _, _, .int k n => .int k n
  | _, _, .str l => .str l
  | _, _, .nilPtr => .nilPtr
  | _, _, .nilMap => .nilMap
  | _, _, .nilFunc => .nilFunc
  | _, _, .nilIface => .nilIface
  | _, _, .none sz el => .none sz el
  | _, _, .slice n sz el B o cap l hz hc hl e => .slice n sz el B o cap l (h _ _ hz) hc hl fun i hi => DsRel.mono h (e i hi)
theorem DsRel.mono {Y Z : Still} (h : Y.le Z) : ∀ {as vs}, DsRel Y as vs → DsRel Z as vs
  | _, _, .nil => .nil
  | _, _, .cons a v as vs e es => .cons a v as vs (DRel.mono h e) (DsRel.mono h es)
end
theorem DsRel.length {Z : Still} {as : List Dat} {vs : List Value} (h : DsRel Z as vs) : as.length = vs.length := by
  induction as generalizing vs with
  | nil => cases h; rfl
  | cons a as ih => cases h with | cons _ v _ vs h hs => simp [ih hs]
theorem DsRel.append {Z : Still} {as bs : List Dat} {vs ws : List Value} (h : DsRel Z as vs) (k : DsRel Z bs ws) : DsRel Z (as ++ bs) (vs ++ ws) := by
  induction as generalizing vs with
  | nil => cases h; exact k
  | cons a as ih => cases h with | cons _ v _ vs h hs => exact .cons _ _ _ _ h (ih hs)

/-- where the engine's blocks lie, and how many more elements they have; what stands still -/
structure Env where
  m : Nat → Option (Nat × Nat)
  z : Still
  base : Nat
instance : CoeFun Env (fun _ => Nat → Option (Nat × Nat)) := ⟨Env.m⟩
def Env.empty : Env := ⟨fun _ => .none, fun _ => .none, 0⟩
/-- a block that the run has made, or knew from the beginning -/
def Own (r : Env) (B : Nat) : Prop := r.base ≤ B ∨ ∃ j x, r j = some (B, x)
structure Env.le (r s : Env) : Prop where
  m : ∀ i p, r i = some p → s i = some p
  z : r.z.le s.z
  base : s.base = r.base
  new : ∀ B l, s.z B = some l → r.z B = some l ∨ Own r B
  own : ∀ i p, s i = some p → Own r p.1
theorem Own.back {r s : Env} (hb : s.base = r.base) (ho : ∀ i p, s i = some p → Own r p.1) {B : Nat} (h : Own s B) : Own r B := by
  rcases h with h | ⟨j, x, h⟩
  · exact .inl (hb ▸ h)
  · exact ho j _ h
theorem Env.le.refl (r : Env) : r.le r := ⟨fun _ _ h => h, fun _ _ h => h, rfl, fun _ _ h => .inl h, fun i p e => .inr ⟨i, p.2, e⟩⟩
theorem Env.le.trans {r s t : Env} (h : r.le s) (k : s.le t) : r.le t :=
  ⟨fun i p e => k.m i p (h.m i p e), fun B l e => k.z B l (h.z B l e), k.base.trans h.base, fun B l e => by
    rcases k.new B l e with e | e
    · exact h.new B l e
    · exact .inr (e.back h.base h.own), fun i p e => (k.own i p e).back h.base h.own⟩

mutual
inductive VRel (ρ : Env) : AV → Value → Prop
  | bool (b : Bool) : VRel ρ (.bool b) (.bool b)
  | int (k : IntKind) (n : Int) : VRel ρ (.int k n) (.int k n)
  | str (l : List UInt8) : VRel ρ (.str l.length (enc l)) (.string ⟨⟨l⟩⟩)
  | nilPtr : VRel ρ .nilPtr (.pointer none)
  | ptr (b o B x : Nat) (h : ρ b = some (B, x)) : VRel ρ (.ptr b o) (.pointer (some ⟨B, o, none⟩))
  | nilSlice : VRel ρ .nilSlice (.slice none 0 0)
  | slice (b o len cap : Nat) (op : Bool) (B x c : Nat) (h : ρ b = some (B, x)) (hc : c = cap + if op then x else 0) : VRel ρ (.slice b o len cap op) (.slice (some ⟨B, o, none⟩) len c)
  | nilMap : VRel ρ .nilMap (.map none)
  | map (b B x : Nat) (h : ρ b = some (B, x)) : VRel ρ (.map b) (.map (some B))
  | func (fn : Fn) (as bs : List AV) (vs ws : Array Value) (ha : VsRel ρ as vs.toList) (hb : VsRel ρ bs ws.toList) : VRel ρ (.func fn as bs) (.func fn vs ws)
  | nilFunc : VRel ρ .nilFunc .nilFunc
  | iface (t : TypeId) (a : AV) (v : Value) (h : VRel ρ a v) : VRel ρ (.iface t a) (.iface t v)
  | nilIface : VRel ρ .nilIface .nilIface
  | agg (as : List AV) (vs : Array Value) (h : VsRel ρ as vs.toList) : VRel ρ (.agg as) (.agg vs)
  | tuple (as : List AV) (vs : Array Value) (h : VsRel ρ as vs.toList) : VRel ρ (.tuple as) (.tuple vs)
  | dslice (n sz : Nat) (el : Nat → List Dat) (v : Value) (h : DRel ρ.z (.slice n sz el) v) : VRel ρ (.dslice n sz el) v
  | dptr (c : List Dat) (off B o : Nat) (l : List Value) (hz : ρ.z B = some l) (hl : o + c.length ≤ l.length) (h : DsRel ρ.z c ((l.drop o).take c.length)) : VRel ρ (.dptr c off) (.pointer (some ⟨B, o + off, none⟩))
inductive VsRel (ρ : Env) : List AV → List Value → Prop
  | nil : VsRel ρ [] []
  | cons (a : AV) (v : Value) (as : List AV) (vs : List Value) (h : VRel ρ a v) (hs : VsRel ρ as vs) : VsRel ρ (a :: as) (v :: vs)
end

structure Env.Sub (r s : Env) : Prop where
  m : ∀ i p, r i = some p → s i = some p
  z : r.z.le s.z
mutual
theorem VRel.sub {ρ σ : Env} (h : ρ.Sub σ) : ∀ {a v}, VRel ρ a v → VRel σ a v
  | _, _, .bool b => .bool b
  | _, _, .int k n => .int k n
  | _, _, .str l => .str l
  | _, _, .nilPtr => .nilPtr
  | _, _, .ptr b o B x e => .ptr b o B x (h.m _ _ e)
  | _, _, .nilSlice => .nilSlice
  | _, _, .slice b o len cap op B x c e hc => .slice b o len cap op B x c (h.m _ _ e) hc
  | _, _, .nilMap => .nilMap
  | _, _, .map b B x e => .map b B x (h.m _ _ e)
  | _, _, .func fn as bs vs ws ha hb => .func fn as bs vs ws (VsRel.sub h ha) (VsRel.sub h hb)
  | _, _, .nilFunc => .nilFunc
  | _, _, .iface t a v e => .iface t a v (VRel.sub h e)
  | _, _, .nilIface => .nilIface
  | _, _, .agg as vs e => .agg as vs (VsRel.sub h e)
  | _, _, .tuple as vs e => .tuple as vs (VsRel.sub h e)
  | _, _, .dslice n sz el v e => .dslice n sz el v (e.mono h.z)
  | _, _, .dptr c off B o l e hl k => .dptr c off B o l (h.z _ _ e) hl (k.mono h.z)
theorem VsRel.sub {ρ σ : Env} (h : ρ.Sub σ) : ∀ {as vs}, VsRel ρ as vs → VsRel σ as vs
  | _, _, .nil => .nil
  | _, _, .cons a v as vs e es => .cons a v as vs (VRel.sub h e) (VsRel.sub h es)
end

theorem Env.le.sub {r s : Env} (h : r.le s) : r.Sub s := ⟨h.m, h.z⟩
theorem VRel.mono {ρ σ : Env} (h : ρ.le σ) {a : AV} {v : Value} (H : VRel ρ a v) : VRel σ a v := H.sub ⟨h.m, h.z⟩
theorem VsRel.mono {ρ σ : Env} (h : ρ.le σ) {as : List AV} {vs : List Value} (H : VsRel ρ as vs) : VsRel σ as vs := H.sub ⟨h.m, h.z⟩

theorem VRel.undef {ρ : Env} : VRel ρ .undef Go.undef := .tuple [] #[] .nil

theorem VsRel.length {ρ : Env} {as : List AV} {vs : List Value} (h : VsRel ρ as vs) : as.length = vs.length := by
  induction as generalizing vs with
  | nil => cases h; rfl
  | cons a as ih => cases h with | cons _ v _ vs h hs => simp [ih hs]
theorem VsRel.append {ρ : Env} {as bs : List AV} {vs ws : List Value} (h : VsRel ρ as vs) (k : VsRel ρ bs ws) : VsRel ρ (as ++ bs) (vs ++ ws) := by
  induction as generalizing vs with
  | nil => cases h; exact k
  | cons a as ih => cases h with | cons _ v _ vs h hs => exact .cons _ _ _ _ h (ih hs)
theorem VsRel.take {ρ : Env} {as : List AV} {vs : List Value} (h : VsRel ρ as vs) : ∀ n, VsRel ρ (as.take n) (vs.take n) := by
  induction as generalizing vs with
  | nil => cases h; intro n; simp; exact .nil
  | cons a as ih =>
    cases h with
    | cons _ v _ vs h hs =>
      intro n
      cases n with
      | zero => exact .nil
      | succ n => exact .cons _ _ _ _ h (ih hs n)
theorem VsRel.drop {ρ : Env} {as : List AV} {vs : List Value} (h : VsRel ρ as vs) : ∀ n, VsRel ρ (as.drop n) (vs.drop n) := by
  induction as generalizing vs with
  | nil => cases h; intro n; simp; exact .nil
  | cons a as ih =>
    cases h with
    | cons _ v _ vs h hs =>
      intro n
      cases n with
      | zero => exact .cons _ _ _ _ h hs
      | succ n => exact ih hs n
theorem VsRel.get {ρ : Env} {as : List AV} {vs : List Value} (h : VsRel ρ as vs) {i : Nat} {v : Value} (hv : vs[i]? = some v) : ∃ a, as[i]? = some a ∧ VRel ρ a v := by
  induction as generalizing vs i with
  | nil => cases h; simp at hv
  | cons a as ih =>
    cases h with
    | cons _ w _ ws h hs =>
      cases i with
      | zero => simp at hv; subst hv; exact ⟨a, rfl, h⟩
      | succ i => exact ih hs (by simpa using hv)
theorem VsRel.get' {ρ : Env} {as : List AV} {vs : List Value} (h : VsRel ρ as vs) {i : Nat} {a : AV} (ha : as[i]? = some a) : ∃ v, vs[i]? = some v ∧ VRel ρ a v := by
  induction as generalizing vs i with
  | nil => simp at ha
  | cons b as ih =>
    cases h with
    | cons _ w _ ws h hs =>
      cases i with
      | zero => simp at ha; subst ha; exact ⟨w, rfl, h⟩
      | succ i => exact ih hs (by simpa using ha)
theorem VsRel.replicate {ρ : Env} {as : List AV} {vs : List Value} (h : VsRel ρ as vs) : ∀ n, VsRel ρ (List.replicate n as).flatten (List.replicate n vs).flatten
  | 0 => .nil
  | n + 1 => by rw [List.replicate_succ, List.replicate_succ, List.flatten_cons, List.flatten_cons]; exact h.append (VsRel.replicate h n)
theorem VRel.cells {ρ : Env} {a : AV} {v : Value} (h : VRel ρ a v) : VsRel ρ (cellsA a) v.cells.toList := by
  have h0 := h
  cases h <;> first
    | exact .cons _ _ _ _ h0 .nil
    | assumption
    | (rename_i h1; cases h1 <;> exact .cons _ _ _ _ h0 .nil)
theorem DRel.toAV {ρ : Env} {d : Dat} {v : Value} (h : DRel ρ.z d v) : VRel ρ (toAV d) v := by
  have h0 := h
  cases h <;> first
    | exact .bool _ | exact .int _ _ | exact .str _ | exact .nilPtr | exact .nilMap | exact .nilFunc | exact .nilIface
    | exact .dslice _ _ _ _ h0
theorem DsRel.toAVs {ρ : Env} {l : List Dat} {vs : List Value} (h : DsRel ρ.z l vs) : VsRel ρ (toAVs l) vs := by
  induction l generalizing vs with
  | nil => cases h; exact .nil
  | cons d l ih => cases h with | cons _ v _ vs h hs => exact .cons _ _ _ _ h.toAV (ih hs)
theorem toAVs_length (l : List Dat) : (toAVs l).length = l.length := by
  induction l with
  | nil => rfl
  | cons d l ih => simpa [Go.Eng.toAVs] using ih
theorem firstEls_rel {Z : Still} {el : Nat → List Dat} {sz o : Nat} {l : List Value} : ∀ (n : Nat), o + n * sz ≤ l.length → (∀ i, i < n → DsRel Z (el i) ((l.drop (o + i * sz)).take sz)) → DsRel Z (firstEls el n) ((l.drop o).take (n * sz)) := by
  intro n
  induction n with
  | zero => intro _ _; simp; exact .nil
  | succ n ih =>
    intro hl h
    rw [Nat.succ_mul] at hl
    have h1 := ih (by omega) fun i hi => h i (by omega)
    have h2 := h n (by omega)
    show DsRel Z (firstEls el n ++ el n) _
    rw [Nat.succ_mul, List.take_add, List.drop_drop]
    exact h1.append h2
theorem firstEls_length {el : Nat → List Dat} {sz : Nat} : ∀ (n : Nat), (∀ i, i < n → (el i).length = sz) → (firstEls el n).length = n * sz := by
  intro n
  induction n with
  | zero => intro _; rw [Nat.zero_mul]; rfl
  | succ n ih =>
    intro h
    show (firstEls el n ++ el n).length = _
    rw [List.length_append, ih fun i hi => h i (by omega), h n (by omega), Nat.succ_mul]

/-! operands -/
noncomputable def ofVal1D (v : Value) : Option AV :=
  match v with
  | .bool b => some (.bool b)
  | .int k n => some (.int k n)
  | .string s => some (.str s.data.toList.length (enc s.data.toList))
  | .pointer none => some .nilPtr
  | .slice none 0 0 => some .nilSlice
  | .map none => some .nilMap
  | .nilFunc => some .nilFunc
  | .nilIface => some .nilIface
  | _ => none
theorem ofVal1_iff (v : Value) (K : AV → Bool) : ofVal1 v K = true ↔ ∃ a, ofVal1D v = some a ∧ K a = true := by
  unfold ofVal1 ofVal1D
  split <;> simp
theorem ofVal1_rel (ρ : Env) {v : Value} {a : AV} (h : ofVal1D v = some a) : VRel ρ a v := by
  unfold ofVal1D at h
  split at h
  case h_1 => obtain rfl := Option.some.inj h; exact .bool _
  case h_2 => obtain rfl := Option.some.inj h; exact .int _ _
  case h_3 s => obtain rfl := Option.some.inj h; exact .str s.data.toList
  case h_4 => obtain rfl := Option.some.inj h; exact .nilPtr
  case h_5 => obtain rfl := Option.some.inj h; exact .nilSlice
  case h_6 => obtain rfl := Option.some.inj h; exact .nilMap
  case h_7 => obtain rfl := Option.some.inj h; exact .nilFunc
  case h_8 => obtain rfl := Option.some.inj h; exact .nilIface
  case h_9 => cases h
theorem ofVals_rel (ρ : Env) : ∀ {vs : List Value} {as : List AV}, vs.mapM ofVal1D = some as → VsRel ρ as vs := by
  intro vs
  induction vs with
  | nil => intro as h; simp at h; subst h; exact .nil
  | cons v vs ih =>
    intro as h
    rw [List.mapM_cons] at h
    cases hv : ofVal1D v with
    | none => simp [hv] at h
    | some a =>
      cases hs : vs.mapM ofVal1D with
      | none => simp [hv, hs] at h
      | some bs =>
        simp only [hv, hs, Option.bind_eq_bind, Option.bind_some] at h
        obtain rfl := Option.some.inj h
        exact .cons _ _ _ _ (ofVal1_rel ρ hv) (ih hs)
noncomputable def ofValD (v : Value) : Option AV :=
  match v with
  | .agg cs => (cs.toList.mapM ofVal1D).map .agg
  | .tuple cs => (cs.toList.mapM ofVal1D).map .tuple
  | v => ofVal1D v
theorem ofVal_iff (v : Value) (K : AV → Bool) : ofVal v K = true ↔ ∃ a, ofValD v = some a ∧ K a = true := by
  cases v with
  | agg cs =>
    show mapK ofVal1 cs.toList (fun l => K (.agg l)) = true ↔ ∃ a, (cs.toList.mapM ofVal1D).map AV.agg = some a ∧ K a = true
    rw [mapK_iff ofVal1_iff]
    cases cs.toList.mapM ofVal1D <;> simp
  | tuple cs =>
    show mapK ofVal1 cs.toList (fun l => K (.tuple l)) = true ↔ ∃ a, (cs.toList.mapM ofVal1D).map AV.tuple = some a ∧ K a = true
    rw [mapK_iff ofVal1_iff]
    cases cs.toList.mapM ofVal1D <;> simp
  | _ => simp only [ofVal, ofValD]; exact ofVal1_iff _ _
theorem ofVal_rel (ρ : Env) {v : Value} {a : AV} (h : ofValD v = some a) : VRel ρ a v := by
  unfold ofValD at h
  split at h
  · rename_i cs
    cases hs : cs.toList.mapM ofVal1D with
    | none => simp [hs] at h
    | some as => simp only [hs, Option.map_some] at h; obtain rfl := Option.some.inj h; exact .agg _ _ (ofVals_rel ρ hs)
  · rename_i cs
    cases hs : cs.toList.mapM ofVal1D with
    | none => simp [hs] at h
    | some as => simp only [hs, Option.map_some] at h; obtain rfl := Option.some.inj h; exact .tuple _ _ (ofVals_rel ρ hs)
  · exact ofVal1_rel ρ h
theorem getT_iff (fr : Fr) (t : Nat) (K : AV → Bool) : getT fr t K = true ↔ ∃ a, fr.get t = some a ∧ K a = true := by
  unfold getT; split <;> simp [*]
noncomputable def evD (fr : Fr) (x : Operand) : Option AV :=
  match x with
  | .tmp t => fr.get t
  | .const v => ofValD v
  | .global _ => none
  | .func f => some (.func (.func f) [] [])
theorem ev_iff (fr : Fr) (x : Operand) (K : AV → Bool) : ev fr x K = true ↔ ∃ a, evD fr x = some a ∧ K a = true := by
  cases x with
  | tmp t => simp [ev, evD, getT_iff]
  | const v => exact ofVal_iff v K
  | global g => simp [ev, evD]
  | func f => simp [ev, evD]
theorem evs_iff (fr : Fr) (l : List Operand) (K : List AV → Bool) : evs fr l K = true ↔ ∃ as, l.mapM (evD fr) = some as ∧ K as = true := mapK_iff (ev_iff fr) l K

/-- the operand's value is as the engine holds it -/
def RelX (ρ : Env) (fr : Fr) (x : Operand) (v : Value) : Prop := ∀ a, evD fr x = some a → VRel ρ a v
theorem relXs {ρ : Env} {fr : Fr} {vals : Operand → Value} : ∀ {l : List Operand} {as : List AV}, (∀ x ∈ l, RelX ρ fr x (vals x)) → l.mapM (evD fr) = some as → VsRel ρ as (l.map vals) := by
  intro l
  induction l with
  | nil => intro as _ h; simp at h; subst h; exact .nil
  | cons x l ih =>
    intro as hx h
    rw [List.mapM_cons] at h
    cases hv : evD fr x with
    | none => simp [hv] at h
    | some a =>
      cases hs : l.mapM (evD fr) with
      | none => simp [hv, hs] at h
      | some bs =>
        simp only [hv, hs, Option.bind_eq_bind, Option.bind_some] at h
        obtain rfl := Option.some.inj h
        exact .cons _ _ _ _ (hx x (by simp) a hv) (ih (fun y hy => hx y (by simp [hy])) hs)

/-! types -/
theorem run_und {P : Program} {t : TypeId} {d : TypeDesc} (h : P.underlying t = some d) (w : World) : (Go.underlying t).run P w = .ok d w := by
  simp [Go.underlying, h]
theorem run_tinfo {P : Program} {t : TypeId} {i : TypeInfo} (h : P.info? t = some i) (w : World) : (typeInfo t).run P w = .ok i w := by
  simp [typeInfo, h]
theorem run_szOf {P : Program} {t : TypeId} {n : Nat} (h : szOf P t = some n) (w : World) : (sizeOf t).run P w = .ok n w := by
  unfold szOf at h
  cases hi : P.info? t with
  | none => simp [hi] at h
  | some i => simp [hi] at h; subst h; simp [sizeOf, run_tinfo hi]
theorem run_isAgg_agg {P : Program} {t : TypeId} {n : Nat} (h : shOf P t = .agg n) (w : World) : (isAgg t).run P w = .ok true w ∧ (sizeOf t).run P w = .ok n w := by
  unfold shOf at h
  split at h <;> first | (cases h; done) | skip
  all_goals
    rename_i hu hi
    simp only [Sh.agg.injEq] at h
    subst h
    exact ⟨by simp [isAgg, run_und hu], by simp [sizeOf, run_tinfo hi]⟩
theorem run_isAgg_one {P : Program} {t : TypeId} (h : shOf P t = .one) (w : World) : (isAgg t).run P w = .ok false w := by
  unfold shOf at h
  split at h <;> first | (cases h; done) | skip
  rename_i d i hs ha hu hi
  simp only [isAgg, Sem.run_bind, run_und hu, Result.andThen_ok]
  cases d <;> first | rfl | (exact absurd rfl (hs _)) | (exact absurd rfl (ha _ _))

theorem part_sound {P : Program} {t : TypeId} {l : List AV} {off : Nat} {K : AV → Bool} (h : partK P t l off K = true) :
    ∃ v, K v = true ∧ ∀ ρ (vs : Array Value), VsRel ρ l vs.toList → ∃ cv, VRel ρ v cv ∧ ∀ w, (part t vs off).run P w = .ok cv w := by
  unfold partK at h
  split at h
  · rename_i n hs
    rw [dropK_iff] at h
    obtain ⟨h1, h⟩ := h
    rw [takeK_iff] at h
    obtain ⟨h2, h⟩ := h
    refine ⟨_, h, fun ρ vs hr => ⟨.agg (vs.extract off (off + n)), .agg _ _ ?_, fun w => ?_⟩⟩
    · have := (hr.drop off).take n
      simpa [Array.toList_extract, List.extract_eq_take_drop] using this
    · have := run_isAgg_agg hs w
      simp [part, this.1, this.2]
  · rename_i hs
    rw [dropK_iff] at h
    obtain ⟨h1, h⟩ := h
    rw [headK_iff] at h
    obtain ⟨a, r, ha, h⟩ := h
    refine ⟨a, h, fun ρ vs hr => ?_⟩
    have hget : l[off]? = some a := by
      have : (l.drop off)[0]? = some a := by rw [ha]; rfl
      simpa using this
    obtain ⟨v, hv, hrel⟩ := hr.get' hget
    refine ⟨v, hrel, fun w => ?_⟩
    have hv' : vs[off]? = some v := by simpa using hv
    simp [part, run_isAgg_one hs w, hv']
  · exact absurd h (by simp)

/-! '==' -/
theorem eqFields_sound {P : Program} {ih : TypeId → AV → AV → (Bool → Bool) → Bool} {d : Nat}
    (hih : ∀ t a b K, ih t a b K = true → ∃ r, K r = true ∧ ∀ ρ ca cb, VRel ρ a ca → VRel ρ b cb → ∀ w, (Op.equalIn d t ca cb).run P w = .ok r w)
    (xs ys : List AV) : ∀ (fs : List Field) (K : Bool → Bool), eqFields P ih xs ys fs K = true →
      ∃ r, K r = true ∧ ∀ ρ (cx cy : Array Value), VsRel ρ xs cx.toList → VsRel ρ ys cy.toList → ∀ w, (Op.eqFields d cx cy fs).run P w = .ok r w := by
  intro fs
  induction fs with
  | nil => intro K h; exact ⟨true, h, fun _ _ _ _ _ _ => rfl⟩
  | cons f fs IH =>
    intro K h
    change Bool.rec (motive := fun _ => Bool)
      (partK P f.type xs f.offset fun a => partK P f.type ys f.offset fun b => ih f.type a b fun e => Bool.rec (motive := fun _ => Bool) (K false) (eqFields P ih xs ys fs K) e)
      (eqFields P ih xs ys fs K) (f.name == "_") = true at h
    cases hn : (f.name == "_") with
    | true =>
      rw [hn] at h
      obtain ⟨r, hK, H⟩ := IH K h
      refine ⟨r, hK, fun ρ cx cy hx hy w => ?_⟩
      have : f.name = "_" := by simpa using hn
      simp only [Op.eqFields, this, ne_eq, not_true_eq_false, if_false]
      exact H ρ cx cy hx hy w
    | false =>
      rw [hn] at h
      have hne : f.name ≠ "_" := by simpa using hn
      obtain ⟨a, h, Ha⟩ := part_sound h
      obtain ⟨b, h, Hb⟩ := part_sound h
      obtain ⟨r, h, Hr⟩ := hih _ _ _ _ h
      cases r with
      | false =>
        refine ⟨false, h, fun ρ cx cy hx hy w => ?_⟩
        obtain ⟨ca, hra, ha⟩ := Ha ρ cx hx
        obtain ⟨cb, hrb, hb⟩ := Hb ρ cy hy
        simp [Op.eqFields, hne, ha, hb, Hr ρ ca cb hra hrb]
      | true =>
        obtain ⟨r, hK, H⟩ := IH K h
        refine ⟨r, hK, fun ρ cx cy hx hy w => ?_⟩
        obtain ⟨ca, hra, ha⟩ := Ha ρ cx hx
        obtain ⟨cb, hrb, hb⟩ := Hb ρ cy hy
        simp [Op.eqFields, hne, ha, hb, Hr ρ ca cb hra hrb, H ρ cx cy hx hy]
end Go.Eng
