/- Walks of the parsers' one: all of it (printed by gen_po.py). -/
import Derived.Test.YthlhiegbiapllaaNmPaO1
import Derived.Test.YthlhiegbiapllaaNmPaO2
import Derived.Test.YthlhiegbiapllaaNmPaO3
import Derived.Test.YthlhiegbiapllaaNmPaO4
import Derived.Test.YthlhiegbiapllaaNmPaO5
import Derived.Test.YthlhiegbiapllaaNmPaO6
namespace Go.Proofs.Ythlhiegbiapllaa
open Go.RowKit
set_option linter.unusedVariables false
set_option linter.unusedSimpArgs false
theorem nOneOk_zero : nOneOk 0 := by
  intro c s i d w hs hi hd h
  obtain rfl : d = 12 := by simpa using hd
  by_cases hid : idL s i = 0
  · exact nOne_no c s i 12 w hs hi hid h
  exact nOne_zero c s i _ _ w hs hi hid rfl rfl h
theorem nOneOk_succ {f : Nat} (hf : f + 1 ≤ 12) (H : nOneOk f) : nOneOk (f + 1) := by
  intro c s i d w hs hi hd h
  have HT := nTys_of H
  have HPA := nParts_of HT
  by_cases hid : idL s i = 0
  · exact nOne_no c s i d w hs hi hid h
  have hle := idL_le s i hi
  by_cases h1 : s.extract i (i + idL s i) = refS
  · exact nOne_ref H HT HPA c s i _ _ d w hs hi hd hf hid rfl rfl hle h1 h
  by_cases h2 : s.extract i (i + idL s i) = listS
  · exact nOne_list H HT HPA c s i _ _ d w hs hi hd hf hid rfl rfl hle h2 h
  by_cases h3 : s.extract i (i + idL s i) = funcS
  · cases hk0 : needB s [40] (i + idL s i) with
    | bad e => exact nOne_func1 H HT HPA c s i _ _ d w hs hi hd hf hid rfl rfl hle h1 h2 h3 e hk0 h
    | ok j u =>
      have hjs := (needB_ok s [40] _ j u hle hk0).2
      cases hv : isB s j 41
      · have hfr := pTys_from (pOne_from s f) (s.size + 1) [] j hjs
        cases ht : pTys s (pOne s f) (s.size + 1) [] j with
        | bad e => exact nOne_func3 H HT HPA c s i _ _ d w hs hi hd hf hid rfl rfl hle h1 h2 h3 j u hjs hk0 hv e ht h
        | ok k l =>
          have hks : k ≤ s.size := by rw [ht] at hfr; exact hfr.2
          cases hk5 : needB s [41, 32] k with
          | bad e => exact nOne_func4a H HT HPA c s i _ _ d w hs hi hd hf hid rfl rfl hle h1 h2 h3 j u hjs hk0 k l hks hv ht e hk5 h
          | ok z u2 =>
            have hzs := (needB_ok s [41, 32] _ z u2 hks hk5).2
            cases hr : pOne s f z with
            | bad e => exact nOne_func4b H HT HPA c s i _ _ d w hs hi hd hf hid rfl rfl hle h1 h2 h3 j u hjs hk0 k l hks hv ht z u2 hzs hk5 e hr h
            | ok y t => exact nOne_func4c H HT HPA c s i _ _ d w hs hi hd hf hid rfl rfl hle h1 h2 h3 j u hjs hk0 k l hks hv ht z u2 hzs hk5 y t hr h
      · cases hk5 : needB s [41, 32] j with
        | bad e => exact nOne_func2a H HT HPA c s i _ _ d w hs hi hd hf hid rfl rfl hle h1 h2 h3 j u hjs hk0 hv e hk5 h
        | ok z u2 =>
          have hzs := (needB_ok s [41, 32] _ z u2 hjs hk5).2
          cases hr : pOne s f z with
          | bad e => exact nOne_func2b H HT HPA c s i _ _ d w hs hi hd hf hid rfl rfl hle h1 h2 h3 j u hjs hk0 hv z u2 hzs hk5 e hr h
          | ok y t => exact nOne_func2c H HT HPA c s i _ _ d w hs hi hd hf hid rfl rfl hle h1 h2 h3 j u hjs hk0 hv z u2 hzs hk5 y t hr h
  exact nOne_plain H HT HPA c s i _ _ d w hs hi hd hf hid rfl rfl hle h1 h2 h3 h
theorem nOneAll : ∀ f, f ≤ 12 → nOneOk f
  | 0, _ => nOneOk_zero
  | f + 1, h => nOneOk_succ h (nOneAll f (by omega))
theorem rOneOk_zero : rOneOk 0 := by
  intro c s i d w hs hi hd h
  obtain rfl : d = 12 := by simpa using hd
  by_cases hid : idL s i = 0
  · exact rOne_no c s i 12 w hs hi hid h
  by_cases h1 : s.extract i (i + idL s i) = refS
  · exact rOne_zero_ref c s i _ _ w hs hi hid rfl rfl h1 h
  by_cases h2 : s.extract i (i + idL s i) = listS
  · exact rOne_zero_list c s i _ _ w hs hi hid rfl rfl h2 h
  by_cases h3 : s.extract i (i + idL s i) = funcS
  · exact rOne_zero_func c s i _ _ w hs hi hid rfl rfl h3 h
  exact rOne_zero_plain c s i _ _ w hs hi hid rfl rfl h1 h2 h3 h
theorem rOneOk_succ {f : Nat} (hf : f + 1 ≤ 12) (H : rOneOk f) : rOneOk (f + 1) := by
  intro c s i d w hs hi hd h
  have HT := rTys_of H
  have HPA := rParts_of HT
  by_cases hid : idL s i = 0
  · exact rOne_no c s i d w hs hi hid h
  have hle := idL_le s i hi
  by_cases h1 : s.extract i (i + idL s i) = refS
  · exact rOne_ref H HT HPA c s i _ _ d w hs hi hd hf hid rfl rfl hle h1 h
  by_cases h2 : s.extract i (i + idL s i) = listS
  · exact rOne_list H HT HPA c s i _ _ d w hs hi hd hf hid rfl rfl hle h2 h
  by_cases h3 : s.extract i (i + idL s i) = funcS
  · cases hk0 : needB s [40] (i + idL s i) with
    | bad e => exact rOne_func1 H HT HPA c s i _ _ d w hs hi hd hf hid rfl rfl hle h1 h2 h3 e hk0 h
    | ok j u =>
      have hjs := (needB_ok s [40] _ j u hle hk0).2
      cases hv : isB s j 41
      · have hfr := pTys_from (pOne_from s f) (s.size + 1) [] j hjs
        cases ht : pTys s (pOne s f) (s.size + 1) [] j with
        | bad e => exact rOne_func3 H HT HPA c s i _ _ d w hs hi hd hf hid rfl rfl hle h1 h2 h3 j u hjs hk0 hv e ht h
        | ok k l =>
          have hks : k ≤ s.size := by rw [ht] at hfr; exact hfr.2
          cases hk4 : needB s [41] k with
          | bad e => exact rOne_func4a H HT HPA c s i _ _ d w hs hi hd hf hid rfl rfl hle h1 h2 h3 j u hjs hk0 k l hks hv ht e hk4 h
          | ok k1 u1 =>
            have hk1s := (needB_ok s [41] _ k1 u1 hks hk4).2
            cases hk5 : needB s [32] k1 with
            | bad e => exact rOne_func4b H HT HPA c s i _ _ d w hs hi hd hf hid rfl rfl hle h1 h2 h3 j u hjs hk0 k l hks hv ht k1 u1 hk1s hk4 e hk5 h
            | ok z u2 =>
              have hzs := (needB_ok s [32] _ z u2 hk1s hk5).2
              cases hr : pOne s f z with
              | bad e => exact rOne_func4c H HT HPA c s i _ _ d w hs hi hd hf hid rfl rfl hle h1 h2 h3 j u hjs hk0 k l hks hv ht k1 u1 hk1s hk4 z u2 hzs hk5 e hr h
              | ok y t => exact rOne_func4d H HT HPA c s i _ _ d w hs hi hd hf hid rfl rfl hle h1 h2 h3 j u hjs hk0 k l hks hv ht k1 u1 hk1s hk4 z u2 hzs hk5 y t hr h
      · have hj1 := get_lt (isB_true hv)
        cases hk5 : needB s [32] (j + 1) with
        | bad e => exact rOne_func2a H HT HPA c s i _ _ d w hs hi hd hf hid rfl rfl hle h1 h2 h3 j u hjs hk0 hv e hk5 h
        | ok z u2 =>
          have hzs := (needB_ok s [32] _ z u2 hj1 hk5).2
          cases hr : pOne s f z with
          | bad e => exact rOne_func2b H HT HPA c s i _ _ d w hs hi hd hf hid rfl rfl hle h1 h2 h3 j u hjs hk0 hv z u2 hzs hk5 e hr h
          | ok y t => exact rOne_func2c H HT HPA c s i _ _ d w hs hi hd hf hid rfl rfl hle h1 h2 h3 j u hjs hk0 hv z u2 hzs hk5 y t hr h
  exact rOne_plain H HT HPA c s i _ _ d w hs hi hd hf hid rfl rfl hle h1 h2 h3 h
theorem rOneAll : ∀ f, f ≤ 12 → rOneOk f
  | 0, _ => rOneOk_zero
  | f + 1, h => rOneOk_succ h (rOneAll f (by omega))
end Go.Proofs.Ythlhiegbiapllaa
