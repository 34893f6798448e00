/- The library's contracts that this seat's laws use. -/
import Derived.Test.YtnondemehfkalaaDoorShelf
import Derived.Test.YtnondemehfkalaaDoorTab
import Derived.Test.YtnondemehfkalaaDoorShaT
import Derived.Test.YtnondemehfkalaaDoorShaV
set_option linter.unusedSimpArgs false
set_option linter.unusedVariables false
namespace Go.Proofs.YtnondemehfkalaaDoor
open Go.Sha Go.RowKit

theorem callable10 : Callable Tryd.prog 9 := ⟨_, Tryd.func9, by kernel_rfl, by kernel_rfl⟩
theorem callable9 : Callable Tryd.prog 8 := ⟨_, Tryd.func8, by kernel_rfl, by kernel_rfl⟩

theorem Below.of_drew {n : Nat} {w w' : World} (h : w' = w ∨ w' = w.drew) : Below n w w' := by
  rcases h with rfl | rfl
  · exact Below.refl _ _
  · exact Below.drew (Below.refl _ _)

theorem toUpper_v (s : List UInt8) (st : St) (hs : s.length ≤ 140737488355328) (ha : ∀ b ∈ s, b.toNat < 128) : VRet Tryd.prog 9 [.str s] st (.str (Lib.toUpperA s)) st := by
  refine VRet_of_below callable10 (fun w A vs hw hv => ?_)
  obtain ⟨u, rfl, h1⟩ := hv.one
  have e1 := h1.str_inv
  subst e1
  refine (Tryd.strings_ToUpper_ascii ⟨s.toArray⟩ w (by simpa [ByteArray.size] using hs) (fun j b hj => ha b (List.mem_of_getElem? hj))).mono fun e w' ⟨he, hb⟩ => ?_
  subst he
  exact ⟨_, rfl, fun w' A' => .str _, hb⟩

theorem prefix_v (s p : List UInt8) (st : St) : VRet Tryd.prog 8 [.str s, .str p] st (.bool (Lib.hasPrefix s p)) st := by
  refine VRet_of_below callable9 (fun w A vs hw ha => ?_)
  obtain ⟨u, v, rfl, h1, h2⟩ := ha.two
  have e1 := h1.str_inv
  have e2 := h2.str_inv
  subst e1; subst e2
  refine (Tryd.strings_HasPrefix ⟨s.toArray⟩ ⟨p.toArray⟩ w).mono fun e w' ⟨he, hb⟩ => ?_
  subst he; subst hb
  exact ⟨_, rfl, fun w' A' => .bool _, Below.refl _ _⟩
theorem callable7 : Callable Tryd.prog 7 := ⟨_, Tryd.func7, by kernel_rfl, by kernel_rfl⟩
theorem repeat_v (s : List UInt8) (c : Nat) (st : St) (hc : c ≤ 9223372036854775807) (hl : s.length * c ≤ 140737488355328) : VRet Tryd.prog 7 [.str s, .int .i64 c] st (.str (Lib.repeatL s c)) st := by
  refine VRet_of_below callable7 (fun w A vs hw ha => ?_)
  obtain ⟨u, v, rfl, h1, h2⟩ := ha.two
  have e1 := h1.str_inv
  subst e1
  cases h2
  refine (Tryd.strings_Repeat ⟨s.toArray⟩ c w hc (by simpa [ByteArray.size] using hl)).mono fun e w' ⟨he, hb⟩ => ?_
  subst he
  exact ⟨_, rfl, fun w' A' => .str _, hb⟩
theorem blanks_eq : ∀ c : Nat, Lib.repeatL [32] c = List.replicate c 32
  | 0 => rfl
  | c + 1 => by rw [Lib.repeatL, blanks_eq c, List.replicate_succ]; rfl
end Go.Proofs.YtnondemehfkalaaDoor
