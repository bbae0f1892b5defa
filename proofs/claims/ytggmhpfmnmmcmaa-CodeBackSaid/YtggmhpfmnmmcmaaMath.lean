/-
  The plain law of codes of times: the number of a code and the code of a number, piece by piece, with no program in sight; for all integers in the ranges named.
-/
namespace Go.Proofs.Ytggmhpfmnmmcmaa.Code07
/-- half, small of the two kinds; the number of a code: piece by piece -/
def D8 (c : Int) : Int :=
  if c < 128 then c else if c < 144 then (c - 112) * 8 else if c < 160 then (c - 128) * 16 else if c < 176 then (c - 144) * 32
  else if c < 192 then (c - 160) * 64 else if c < 208 then (c - 176) * 128 else if c < 224 then (c - 192) * 256 else if c < 240 then (c - 208) * 512 else (c - 224) * 1024
def D16 (c : Int) : Int :=
  if c < 32768 then c else if c < 36864 then (c - 28672) * 8 else if c < 40960 then (c - 32768) * 16 else if c < 45056 then (c - 36864) * 32
  else if c < 49152 then (c - 40960) * 64 else if c < 53248 then (c - 45056) * 128 else if c < 57344 then (c - 49152) * 256 else if c < 61440 then (c - 53248) * 512 else (c - 57344) * 1024
def E8 (n : Int) : Int :=
  if n < 128 then n else if n < 256 then n / 8 + 112 else if n < 512 then n / 16 + 128 else if n < 1024 then n / 32 + 144
  else if n < 2048 then n / 64 + 160 else if n < 4096 then n / 128 + 176 else if n < 8192 then n / 256 + 192 else if n < 16384 then n / 512 + 208 else if n < 32768 then n / 1024 + 224 else 255
def E16 (n : Int) : Int :=
  if n < 32768 then n else if n < 65536 then n / 8 + 28672 else if n < 131072 then n / 16 + 32768 else if n < 262144 then n / 32 + 36864
  else if n < 524288 then n / 64 + 40960 else if n < 1048576 then n / 128 + 45056 else if n < 2097152 then n / 256 + 49152 else if n < 4194304 then n / 512 + 53248 else if n < 8388608 then n / 1024 + 57344 else 65535

theorem D8_rises (c : Int) (h0 : 0 ≤ c) (h : c < 255) : D8 c < D8 (c + 1) := by unfold D8; omega
theorem D16_rises (c : Int) (h0 : 0 ≤ c) (h : c < 65535) : D16 c < D16 (c + 1) := by unfold D16; omega
theorem D8_bd (c : Int) (h0 : 0 ≤ c) (h : c ≤ 255) : 0 ≤ D8 c ∧ D8 c ≤ 31744 := by unfold D8; omega
theorem D16_mono (a b : Int) (_h0 : 0 ≤ a) (h : a ≤ b) (hb : b ≤ 65535) : D16 a ≤ D16 b := by unfold D16; omega
theorem D16_bd (c : Int) (h0 : 0 ≤ c) (h : c ≤ 65535) : 0 ≤ D16 c ∧ D16 c ≤ 8387584 := by unfold D16; omega
theorem E8_bd (n : Int) (h0 : 0 ≤ n) : 0 ≤ E8 n ∧ E8 n ≤ 255 := by unfold E8; omega
theorem E16_bd (n : Int) (h0 : 0 ≤ n) : 0 ≤ E16 n ∧ E16 n ≤ 65535 := by unfold E16; omega
theorem back8 (c : Int) (h0 : 0 ≤ c) (h : c ≤ 255) : E8 (D8 c) = c := by unfold E8 D8; omega
theorem back16 (c : Int) (h0 : 0 ≤ c) (h : c ≤ 65535) : E16 (D16 c) = c := by unfold E16 D16; omega
theorem near8 (n : Int) (h0 : 0 ≤ n) (h : n ≤ 31744) : D8 (E8 n) ≤ n ∧ 16 * (n - D8 (E8 n)) ≤ n := by unfold E8 D8; omega
theorem near16 (n : Int) (h0 : 0 ≤ n) (h : n ≤ 8387584) : D16 (E16 n) ≤ n ∧ 4096 * (n - D16 (E16 n)) ≤ n := by unfold E16 D16; omega
/-- the greatest code that says no more -/
theorem E8_le (n : Int) (h0 : 0 ≤ n) : D8 (E8 n) ≤ n := by unfold E8 D8; omega
theorem E8_top (n c : Int) (_h0 : 0 ≤ n) (hc0 : 0 ≤ c) (hc : c ≤ 255) (h : E8 n < c) : n < D8 c := by unfold E8 at h; unfold D8; omega
theorem E16_le (n : Int) (h0 : 0 ≤ n) : D16 (E16 n) ≤ n := by unfold E16 D16; omega
theorem E16_top (n c : Int) (_h0 : 0 ≤ n) (hc0 : 0 ≤ c) (hc : c ≤ 65535) (h : E16 n < c) : n < D16 c := by unfold E16 at h; unfold D16; omega
end Go.Proofs.Ytggmhpfmnmmcmaa.Code07
