/- A part of the proof over this seat's program: the checked evaluator and its soundness (E..), and what it gives here (the others). No condition. -/
import Derived.Test.YtnljmpeaeajcoaaGreatDoorT3
namespace Go.Proofs.YtnljmpeaeajcoaaGreatDoor
open Go Go.Eng Go.Vi
local instance : Go.Eng.Mode := Sy

def nx (m : Nat) : List UInt8 → Nat × List UInt8
  | [] => (0, [])
  | a :: l => (a.toNat % m, l)
theorem nx_lt {m : Nat} (l : List UInt8) (h : 0 < m) : (nx m l).1 < m := by
  cases l with
  | nil => exact h
  | cons a l => exact Nat.mod_lt _ h
theorem next_c (l : List UInt8) (v m : Nat) : BSim Tryz.prog 39 [.ptr 0 0, .int .i64 (.ofNat (m + 1))] [cD l v] [cD (nx (m + 1) l).2 v] (.int .i64 (.ofNat (nx (m + 1) l).1)) := by
  cases l with
  | nil => exact next_nil v m
  | cons a l => exact next_cons a l v m
/-- an answer of next, for a run -/
noncomputable def eNext (b : Nat) (m : Nat) (l l' : List UInt8) (v k : Nat) : FuncId × SEnt := (39, ⟨[.ptr b 0, .int .i64 (.ofNat m)], [(b, toAVs (cD l v), toAVs (cD l' v))], .int .i64 (.ofNat k)⟩)
theorem eNext_ok {b m : Nat} {l l' : List UInt8} {v k : Nat} (h : nx (m + 1) l = (k, l')) : SSpec Tryz.prog (eNext b (m + 1) l l' v k).1 (eNext b (m + 1) l l' v k).2 := by
  have := next_c l v m
  rw [h] at this
  exact this.spec1 b rfl

noncomputable def mkA (o : Int) (n : List UInt8) (r : Rt) (s : AV) : AV := .agg [.int .i64 o, toAV (sD n), .bool r.neg, toAV (sD r.mag), .bool r.dneg, toAV (sD r.dmag), s]
theorem mkA0 {k : Nat} {M : Mem} (o : Int) (n : List UInt8) (r : Rt) : FzA k M (mkA o n r .nilSlice) (exA (.mk o n r [])) := fz_ex0 o n r
noncomputable def gB (c b : Bool) : Bool := Bool.rec (motive := fun _ => Bool) false b c
theorem gB_iff {c b : Bool} : gB c b = true ↔ c = true ∧ b = true := brec_false
noncomputable def gE {α : Type} (x : α) (b : Bool) : Bool := gateP (x = x) b
theorem gE_iff {α : Type} {x : α} {b : Bool} : gE x b = true ↔ b = true := by unfold gE; rw [gateP_iff]; exact ⟨fun h => h.2, fun h => ⟨rfl, h⟩⟩
/-- a call of the script, with its gates -/
noncomputable def gC (e : FuncId × SEnt) (b : Bool) : Bool := gE e.2.args (match e.2.ups with | [] => b | u :: _ => gE u.2.1 b)
theorem gC_iff {e : FuncId × SEnt} {b : Bool} : gC e b = true ↔ b = true := by
  unfold gC
  split <;> simp only [gE_iff]

def exNum (k : Nat) : Ex := .mk 1 [] (ratOf (k % 64) (1 + k / 128)) []
theorem ok41 : FnOk Tryz.prog 41 Tryz.f41 := ⟨Tryz.func41, by kernel_rfl, by kernel_rfl⟩
noncomputable def eInts (n d : Nat) : FuncId × SEnt := (61, ⟨[.int .i64 (.ofNat n), .int .i64 (.ofNat d)], [], .tuple [rtA (ratOf n d), .int .i64 0]⟩)
theorem eInts_ok {n d : Nat} (hn : n < 64) (hd : d = 1 ∨ d = 2) : SSpec Tryz.prog (eInts n d).1 (eInts n d).2 := (fromInts n d hn hd).spec0 rfl
theorem smallI (n : Nat) (h : n < 9223372036854775808) : inI64 (.ofNat n) = true := (inI64_iff _).2 (by simp only [Int.ofNat_eq_natCast]; omega)
theorem number_c (l l' : List UInt8) (v k : Nat) (h : nx 256 l = (k, l')) : BSim Tryz.prog 41 [.ptr 0 0] [cD l v] [cD l' v] (exA (exNum k)) := by
  have hk : k < 256 := by have := nx_lt (m := 256) l (by omega); rw [h] at this; exact this
  refine BSim.run hm hX0 (S := [eNext 0 256 l l' v k, eInts (k % 64) (1 + k / 128)]) (fun e he => ?_) ok41 (by kernel_rfl) rfl 40 [0]
    (fun I => gC (eNext 0 256 l l' v k) (gB (inI64 (.ofNat (k / 128))) (gB (inI64 (.ofNat (1 + k / 128))) (gC (eInts (k % 64) (1 + k / 128)) (I (mkA 1 [] (ratOf (k % 64) (1 + k / 128)) .nilSlice) [some (.row (toAVs (cD l' v)) false 1)]))))) (fun I => by kernel_rfl) ?_
  · rcases List.mem_cons.1 he with rfl | he
    · exact eNext_ok h
    · rcases List.mem_cons.1 he with rfl | he
      · exact eInts_ok (Nat.mod_lt _ (by omega)) (by omega)
      · cases he
  · simp only [gC_iff, gB_iff]
    exact ⟨smallI _ (by omega), smallI _ (by omega), pdec_iff.2 (Leaf.box fun _ _ => mkA0 ..)⟩
end Go.Proofs.YtnljmpeaeajcoaaGreatDoor
