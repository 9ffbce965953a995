/- Products of phasors of 64ths of turns. No condition. -/
import Derived.Test.YtocclddnaaaohaaCg0
import Derived.Test.YtocclddnaaaohaaCg1
import Derived.Test.YtocclddnaaaohaaCg2
import Derived.Test.YtocclddnaaaohaaCg3
namespace Go.Proofs.Ytocclddnaaaohaa
theorem rAll : ∀ k, k < 64 → rowK k = true
  | 0, _ => rK0
  | 1, _ => rK1
  | 2, _ => rK2
  | 3, _ => rK3
  | 4, _ => rK4
  | 5, _ => rK5
  | 6, _ => rK6
  | 7, _ => rK7
  | 8, _ => rK8
  | 9, _ => rK9
  | 10, _ => rK10
  | 11, _ => rK11
  | 12, _ => rK12
  | 13, _ => rK13
  | 14, _ => rK14
  | 15, _ => rK15
  | 16, _ => rK16
  | 17, _ => rK17
  | 18, _ => rK18
  | 19, _ => rK19
  | 20, _ => rK20
  | 21, _ => rK21
  | 22, _ => rK22
  | 23, _ => rK23
  | 24, _ => rK24
  | 25, _ => rK25
  | 26, _ => rK26
  | 27, _ => rK27
  | 28, _ => rK28
  | 29, _ => rK29
  | 30, _ => rK30
  | 31, _ => rK31
  | 32, _ => rK32
  | 33, _ => rK33
  | 34, _ => rK34
  | 35, _ => rK35
  | 36, _ => rK36
  | 37, _ => rK37
  | 38, _ => rK38
  | 39, _ => rK39
  | 40, _ => rK40
  | 41, _ => rK41
  | 42, _ => rK42
  | 43, _ => rK43
  | 44, _ => rK44
  | 45, _ => rK45
  | 46, _ => rK46
  | 47, _ => rK47
  | 48, _ => rK48
  | 49, _ => rK49
  | 50, _ => rK50
  | 51, _ => rK51
  | 52, _ => rK52
  | 53, _ => rK53
  | 54, _ => rK54
  | 55, _ => rK55
  | 56, _ => rK56
  | 57, _ => rK57
  | 58, _ => rK58
  | 59, _ => rK59
  | 60, _ => rK60
  | 61, _ => rK61
  | 62, _ => rK62
  | 63, _ => rK63
  | n + 64, h => absurd h (by omega)
theorem pair_all {k l : Nat} (hk : k < 64) (hl : l < 64) : NearP (mulRe (PW.getD k (0, 0)).1 (PW.getD k (0, 0)).2 (PW.getD l (0, 0)).1 (PW.getD l (0, 0)).2) (PW.getD ((k + l) % 64) (0, 0)).1 ∧ NearP (mulIm (PW.getD k (0, 0)).1 (PW.getD k (0, 0)).2 (PW.getD l (0, 0)).1 (PW.getD l (0, 0)).2) (PW.getD ((k + l) % 64) (0, 0)).2 := by
  have h := rowC_all _ _ _ _ (rAll k hk) l (by rw [pw_len]; exact hl)
  rw [rot_at hk hl] at h
  exact chP_of h
end Go.Proofs.Ytocclddnaaaohaa
