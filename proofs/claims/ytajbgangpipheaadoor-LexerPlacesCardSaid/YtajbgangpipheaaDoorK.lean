/- The library's contracts that this seat's laws use. -/
import Derived.Test.YtajbgangpipheaaDoorShelf
import Derived.Test.YtajbgangpipheaaDoorTab
import Derived.Test.YtajbgangpipheaaDoorShaT
import Derived.Test.YtajbgangpipheaaDoorShaV
set_option linter.unusedSimpArgs false
set_option linter.unusedVariables false
namespace Go.Proofs.YtajbgangpipheaaDoor
open Go.Sha Go.RowKit

theorem callable14 : Callable Tryd.prog 14 := ⟨_, Tryd.func14, by kernel_rfl, by kernel_rfl⟩
theorem callable15 : Callable Tryd.prog 15 := ⟨_, Tryd.func15, by kernel_rfl, by kernel_rfl⟩
theorem callable10 : Callable Tryd.prog 10 := ⟨_, Tryd.func10, by kernel_rfl, by kernel_rfl⟩
theorem callable9 : Callable Tryd.prog 9 := ⟨_, Tryd.func9, by kernel_rfl, by kernel_rfl⟩

theorem Below.of_drew {n : Nat} {w w' : World} (h : w' = w ∨ w' = w.drew) : Below n w w' := by
  rcases h with rfl | rfl
  · exact Below.refl _ _
  · exact Below.drew (Below.refl _ _)

theorem trim_v (s : List UInt8) (st : St) (hs : s.length ≤ 140737488355328) : VRet Tryd.prog 14 [.str s, .str [32]] st (.str (Lib.trimB s 32)) st := by
  refine VRet_of_below callable14 (fun w A vs hw ha => ?_)
  obtain ⟨u, v, rfl, h1, h2⟩ := ha.two
  have e1 := h1.str_inv
  have e2 := h2.str_inv
  subst e1; subst e2
  refine (Tryd.strings_Trim_one ⟨s.toArray⟩ 32 (by decide) w (by simp [ByteArray.size]; omega)).mono fun e w' ⟨he, hb⟩ => ?_
  subst he
  exact ⟨_, rfl, fun w' A' => .str _, Below.of_drew hb⟩

theorem toLower_v (s : List UInt8) (st : St) (hs : s.length ≤ 140737488355328) (ha : ∀ b ∈ s, b.toNat < 128) : VRet Tryd.prog 15 [.str s] st (.str (Lib.toLowerA s)) st := by
  refine VRet_of_below callable15 (fun w A vs hw hv => ?_)
  obtain ⟨u, rfl, h1⟩ := hv.one
  have e1 := h1.str_inv
  subst e1
  refine (Tryd.strings_ToLower_ascii ⟨s.toArray⟩ w (by simpa [ByteArray.size] using hs) (fun j b hj => ha b (List.mem_of_getElem? hj))).mono fun e w' ⟨he, hb⟩ => ?_
  subst he
  exact ⟨_, rfl, fun w' A' => .str _, hb⟩

theorem toUpper_v (s : List UInt8) (st : St) (hs : s.length ≤ 140737488355328) (ha : ∀ b ∈ s, b.toNat < 128) : VRet Tryd.prog 10 [.str s] st (.str (Lib.toUpperA s)) st := by
  refine VRet_of_below callable10 (fun w A vs hw hv => ?_)
  obtain ⟨u, rfl, h1⟩ := hv.one
  have e1 := h1.str_inv
  subst e1
  refine (Tryd.strings_ToUpper_ascii ⟨s.toArray⟩ w (by simpa [ByteArray.size] using hs) (fun j b hj => ha b (List.mem_of_getElem? hj))).mono fun e w' ⟨he, hb⟩ => ?_
  subst he
  exact ⟨_, rfl, fun w' A' => .str _, hb⟩

theorem prefix_v (s p : List UInt8) (st : St) : VRet Tryd.prog 9 [.str s, .str p] st (.bool (Lib.hasPrefix s p)) st := by
  refine VRet_of_below callable9 (fun w A vs hw ha => ?_)
  obtain ⟨u, v, rfl, h1, h2⟩ := ha.two
  have e1 := h1.str_inv
  have e2 := h2.str_inv
  subst e1; subst e2
  refine (Tryd.strings_HasPrefix ⟨s.toArray⟩ ⟨p.toArray⟩ w).mono fun e w' ⟨he, hb⟩ => ?_
  subst he; subst hb
  exact ⟨_, rfl, fun w' A' => .bool _, Below.refl _ _⟩
end Go.Proofs.YtajbgangpipheaaDoor
