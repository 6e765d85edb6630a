/- A part of the proof over this seat's program: the checked evaluator and its soundness (E..), and what it gives here (the others). No condition. -/
import Derived.Test.YtnljmpeaeajcoaaGreatDoorT17
namespace Go.Proofs.YtnljmpeaeajcoaaGreatDoor
open Go Go.Eng Go.Vi
local instance : Go.Eng.Mode := St

/-! the law -/
theorem ok4 : FnOk Tryz.prog 4 Tryz.f4 := ⟨Tryz.func4, by kernel_rfl, by kernel_rfl⟩
noncomputable def eTy (l : List UInt8) (t : Nat) (x : Ex) : FuncId × SEnt := (12, ⟨[codesA l, .int .i64 (.ofNat t), .int .i64 (.ofNat 2)], [], exA x⟩)
noncomputable def eBi (x : Ex) (a b : Nat) (y : Ex) : FuncId × SEnt := (13, ⟨[exA x, nmA, idA a b], [], .tuple [exA y, .int .i64 0]⟩)
noncomputable def eOf (x : Ex) (t : Nat) : FuncId × SEnt := (14, ⟨[exA x], [], .tuple [.int .i64 (.ofNat t), .int .i64 0]⟩)
noncomputable def eKn : FuncId × SEnt := (6, ⟨[], [], .bool true⟩)
theorem hX0' : ∀ f x, X0 f = some x → ExtSpec Tryz.prog f x := fun _ _ h => by cases h
noncomputable def ieqT (t : Nat) : Bool := ieq (.ofNat t) (.ofNat t)
/-- the last equation, as the engine splits on it -/
noncomputable def lastEq (c : Bool) (I : AV → Bool) : Bool :=
  gIf c (gIf c (gIf c (gIf c (I (.bool c)) (I (.bool false))) (gIf c (I .undef) (I (.bool false)))) (gIf c false (gIf c (I .undef) (I (.bool false)))))
    (gIf c (gIf c false (gIf c (I .undef) (I (.bool false)))) (gIf c false (gIf c (I .undef) (I (.bool false)))))
theorem typed_law (l : List UInt8) (t a b : Nat) (ht : t < 256) (ha : a < 256) (hb : b < 256) :
    BSim Tryz.prog 4 [codesA l, .int .u8 (.ofNat t), .agg [.int .u8 (.ofNat a), .int .u8 (.ofNat b)]] [] [] (.bool true) := by
  have hk : 1 + t % 8 ∈ [1, 2, 3, 4, 5, 6, 7, 8] := by
    have : t % 8 = 0 ∨ t % 8 = 1 ∨ t % 8 = 2 ∨ t % 8 = 3 ∨ t % 8 = 4 ∨ t % 8 = 5 ∨ t % 8 = 6 ∨ t % 8 = 7 := by omega
    rcases this with h | h | h | h | h | h | h | h <;> rw [h] <;> decide
  have h1 := Typed_c 2 (1 + t % 8) (by omega) hk l
  obtain ⟨hT, hn, hd⟩ := typed_ok (v := 2) (by omega) hk l
  generalize typedEx 2 (1 + t % 8) l = x at h1 hT hn hd
  obtain ⟨y, hTy, hBd, hs, hp⟩ := hT.bd (a + 1) (b + 1) (by omega) (by omega)
  have h2 := bind_c hT.good (by omega) (by omega) (a := a) (b := b) ha hb hBd
  rw [Nat.add_comm a 1, Nat.add_comm b 1] at h2
  have h3 := of_c hT.good (by omega) (by omega) hT.ty
  have h4 := of_c hTy.good (by omega) (by omega) hTy.ty
  refine BSim.run hm hX0' (S := [eTy l (1 + t % 8) x, eBi x (1 + a) (1 + b) y, eOf x (1 + t % 8), eOf y (1 + t % 8), eKn]) (AllOk.mem ⟨h1.spec0 rfl, h2.spec0 rfl, h3.spec0 rfl, h4.spec0 rfl, known_c.spec0 rfl, trivial⟩) ok4 (by kernel_rfl) rfl 60 []
    (fun I => gB (inI64 (.ofNat t)) (gB (inI64 (.ofNat (1 + t % 8))) (gC (eTy l (1 + t % 8) x) (gB (inI64 (.ofNat a)) (gB (inI64 (.ofNat (1 + a))) (gB (inI64 (.ofNat b)) (gB (inI64 (.ofNat (1 + b))) (gC (eBi x (1 + a) (1 + b) y) (gC (eOf x (1 + t % 8)) (gC (eOf y (1 + t % 8)) (gC eKn (lastEq (ieqT (1 + t % 8)) fun a => I a [])))))))))))) (fun I => by kernel_rfl) ?_
  have hi : ∀ n : Nat, n < 257 → inI64 (.ofNat n) = true := fun n hn => inI64_iff _ |>.2 (by simp only [Int.ofNat_eq_natCast]; omega)
  have he : ieqT (1 + t % 8) = true := by show Nat.beq _ _ = true; rw [Nat.beq_eq]
  simp only [gC_iff, gB_iff, he, lastEq]
  exact ⟨hi _ (by omega), hi _ (by omega), hi _ (by omega), hi _ (by omega), hi _ (by omega), hi _ (by omega), pdec_iff.2 (Leaf.flat fun _ _ => .plain (.bool true))⟩
end Go.Proofs.YtnljmpeaeajcoaaGreatDoor
