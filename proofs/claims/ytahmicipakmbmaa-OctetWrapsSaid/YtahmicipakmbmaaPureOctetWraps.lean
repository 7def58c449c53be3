/- Every number and sum in 32 bits of package octet is the document's, for all 64-bit arguments: the plain law behind OctetWraps. Conditions: none but that the arguments are ints. -/
import Derived.Test.YtahmicipakmbmaaQ5
import Derived.Test.YtahmicipakmbmaaR1
namespace Go.Proofs.Ytahmicipakmbmaa.Pure
open Go.RowKit Go.Proofs.Ytahmicipakmbmaa.Q Go.Proofs.YtahmicipakmbmaaW.PrintWords Go.Proofs.YtahmicipakmbmaaW.PrintLast

theorem wrap_ref (a : Int) (_ : -9223372036854775808 ≤ a ∧ a ≤ 9223372036854775807) : reedpenref01_Wrap.f a = some (wrap32 a) := by
  unfold reedpenref01_Wrap.f wrap32 wrap64
  have ht := Int.tmod_eq_emod (a := a) (b := 4294967296)
  split <;> split <;> (congr 1; split at ht <;> omega)

theorem wrap_own (a : Int) : octet_Wrap.f a = some (wrap32 a) := by
  unfold octet_Wrap.f wrap64 wrap32
  congr 1; omega

theorem OctetWraps : reedpenlaw01_OctetWraps.Pure := by
  intro a b ha hb
  replace ha := i64_range ha
  replace hb := i64_range hb
  unfold reedpenlaw01_OctetWraps.f reedpenlaw01_alive.f
  rw [wrap_own, wrap_ref a ha]
  simp only [Option.bind_some, if_true]
  have h1 : -9223372036854775808 ≤ wrap64 (wrap32 a + wrap32 b) ∧ wrap64 (wrap32 a + wrap32 b) ≤ 9223372036854775807 := by unfold wrap64; omega
  have h2 : reedpenref01_Add.f a b = some (wrap32 (wrap64 (wrap32 a + wrap32 b))) := by
    unfold reedpenref01_Add.f
    rw [wrap_ref a ha, wrap_ref b hb]
    simp only [Option.bind_some]
    rw [wrap_ref _ h1]
    rfl
  have h3 : octet_Add.f a b = some (wrap32 (wrap64 (wrap32 a + wrap32 b))) := by
    unfold octet_Add.f
    congr 1
    unfold wrap64 wrap32
    omega
  rw [h2, h3]
  simp

end Go.Proofs.Ytahmicipakmbmaa.Pure
