/- A part of the proof over this seat's program: the checked evaluator and its soundness (E..), and what it gives here (the others). No condition. -/
import Derived.Test.YtnljmpeaeajcoaaGreatDoorG32
import Derived.ChangeSlices
set_option linter.unusedSectionVars false
/-! arguments of a row, in a run's words -/
namespace Go.Eng
open Go
theorem rowAt_le {p : Program} {fits : TypeId → Bool} {d : Nat} {e : TypeId} {count off n : Nat} (h : rowAt p fits d e count off n = true) : off ≤ count * p.cellsOf e := by
  cases d with
  | zero => simp [rowAt] at h
  | succ d =>
    unfold rowAt at h
    by_cases hs : p.cellsOf e = 0
    · simp [hs] at h
    · simp only [hs, if_false] at h
      have hp : 0 < p.cellsOf e := Nat.pos_of_ne_zero hs
      have hdm := Nat.div_add_mod off (p.cellsOf e)
      rw [Bool.or_eq_true] at h
      rcases h with h | h
      · simp only [Bool.and_eq_true, beq_iff_eq, decide_eq_true_eq] at h
        have h1 : off / p.cellsOf e ≤ count := by omega
        calc off = p.cellsOf e * (off / p.cellsOf e) := by omega
          _ ≤ p.cellsOf e * count := Nat.mul_le_mul_left _ h1
          _ = _ := Nat.mul_comm _ _
      · rw [Bool.and_eq_true, decide_eq_true_eq] at h
        have h1 : off / p.cellsOf e + 1 ≤ count := h.1
        have h2 := Nat.mod_lt off hp
        calc off ≤ p.cellsOf e * (off / p.cellsOf e + 1) := by rw [Nat.mul_add]; omega
          _ ≤ p.cellsOf e * count := Nat.mul_le_mul_left _ h1
          _ = _ := Nat.mul_comm _ _
theorem liesAt_le {p : Program} : ∀ {d : Nat} {e : TypeId} {count off : Nat} {u : TypeId} {n : Nat}, liesAt p d e count off u n = true → off ≤ count * p.cellsOf e := by
  intro d
  induction d with
  | zero => intro e count off u n h; simp [liesAt] at h
  | succ d ih =>
    intro e count off u n h
    unfold liesAt at h
    rw [Bool.or_eq_true] at h
    rcases h with h | h
    · exact rowAt_le h
    · split at h
      · exact ih h
      · cases h
/-- where a block lies, and that the place lies within -/
theorem has_block {P : Program} {W : World} {r : Reach} {base : Nat} {a : Addr} {e : TypeId} {n : Nat} (h : W.has P r base a e n) : ∃ arr t fz, a = ⟨a.block, a.off, none⟩ ∧ W.heap[a.block]? = some (.cells arr t fz) ∧ a.off ≤ arr.size := by
  obtain ⟨_, hs, row, cells, hsh, hl⟩ := h
  unfold World.shape? at hsh
  split at hsh
  · rename_i arr t fz hb
    obtain ⟨rfl, rfl⟩ := Prod.mk.inj (Option.some.inj hsh)
    refine ⟨arr, _, fz, ?_, hb, ?_⟩
    · cases a; simp_all
    · exact Nat.le_trans (liesAt_le hl) (Nat.div_mul_le_self _ _)
  · cases hsh
variable [Mode]
/-- the argument '[]byte' -/
theorem arg_bytes {H : Type} {enc : TypeId × Value → H} {P : Program} {W : World} {r : Reach} {b0 : Nat} {held : Bool} {t e : TypeId} {v : Value} {d : DataW H} {p : List MemPlace} (ht : P.underlying t = some (.slice e)) (he : P.underlying e = some (.int .u8)) (hc : P.cellsOf e = 1)
    (hval : Value.okWide P W r b0 t v) (hd : DataW.Trod enc P W 0 (fun _ => true) held t v d p) : ∃ l : List UInt8, VRel (startEnv W) (.dslice l.length 1 (fun i => [.int .u8 (.ofNat (l.getD i 0).toNat)])) v := by
  obtain ⟨fuel, hf⟩ := hd
  simp only [Value.okWide, ht, Cell.okWide, Cell.ok] at hval
  rcases ChangeShapes.open_ints ht he hc hf with ⟨hcs, _⟩ | ⟨a, len, cap, zs, hcs, _, hl, hm, hz, _, hcell, hw⟩
  · have : v = .slice none 0 0 := by
      cases v <;> simp [Value.cells] at hcs ⊢ <;> simp_all
    subst this
    exact ⟨[], .dslice _ _ _ _ (.none 1 _)⟩
  · have : v = .slice (some a) len cap := by
      cases v <;> simp [Value.cells] at hcs ⊢ <;> simp_all
    subst this
    simp only [if_true] at hz
    obtain ⟨_, _, hhas⟩ := hval
    obtain ⟨arr, t', fz, ha, hb, hoff⟩ := has_block hhas
    have hget : ∀ i, i < cap → arr[a.off + i]? = some (.int .u8 (zs.getD i 0)) := by
      intro i hi
      have h1 := hcell i (by omega)
      rw [ha] at h1
      by_cases h0 : i = 0
      · subst h0; simpa [World.cell?, Addr.add, hb] using h1
      · simpa [World.cell?, Addr.add, hb, h0] using h1
    have hlen : a.off + len ≤ arr.size := by
      cases len with
      | zero => exact hoff
      | succ n =>
        have := (Array.getElem?_eq_some_iff.1 (hget n (by omega))).1
        omega
    refine ⟨(zs.take len).map fun n => UInt8.ofNat n.toNat, ?_⟩
    have hln : ((zs.take len).map fun n => UInt8.ofNat n.toNat).length = len := by simp; omega
    rw [hln, ha]
    refine .dslice _ _ _ _ (.slice len 1 _ a.block a.off cap arr.toList (startEnv_z hb) hl (by simpa using hlen) fun i hi => ?_)
    have h1 := hget i (by omega)
    have e1 : (arr.toList.drop (a.off + i * 1)).take 1 = [.int .u8 (zs.getD i 0)] := by
      rw [Nat.mul_one]
      have h2 : arr.toList[a.off + i]? = some (.int .u8 (zs.getD i 0)) := by simpa using h1
      obtain ⟨h3, h4⟩ := List.getElem?_eq_some_iff.1 h2
      rw [List.drop_eq_getElem_cons h3, h4]
      rfl
    rw [e1]
    have hwi : (Lit.int .u8 (zs.getD i 0)).wf = true := hw _ (by
      have : zs.getD i 0 = zs[i]'(by omega) := by simp [List.getD, show i < zs.length by omega]
      rw [this]; exact List.getElem_mem _)
    have hr : 0 ≤ zs.getD i 0 ∧ zs.getD i 0 ≤ 255 := by simpa [Lit.wf, IntKind.min, IntKind.max, IntKind.signed, IntKind.bits] using hwi
    have e2 : ((((zs.take len).map fun n => UInt8.ofNat n.toNat)).getD i 0).toNat = (zs.getD i 0).toNat := by
      have : (((zs.take len).map fun n => UInt8.ofNat n.toNat)).getD i 0 = UInt8.ofNat (zs.getD i 0).toNat := by
        simp [List.getD, List.getElem?_take_of_lt hi, show i < zs.length by omega]
      rw [this]
      have h5 : (zs.getD i 0).toNat < 256 := by omega
      rw [UInt8.toNat_ofNat']
      exact Nat.mod_eq_of_lt h5
    have e3 : Int.ofNat ((((zs.take len).map fun n => UInt8.ofNat n.toNat)).getD i 0).toNat = zs.getD i 0 := by
      rw [e2]; simp only [Int.ofNat_eq_natCast]; omega
    rw [e3]
    exact .cons _ _ _ _ (.int _ _) .nil
end Go.Eng
