/- The seven fixed sums of the law DigestKnown, reckoned block by block by the kernel. No program. (Printed by mk_known.py.) -/
import Derived.Test.YtbaeddppihjgfaaDoorShaCalc
namespace Go.Proofs.YtbaeddppihjgfaaDoor.Sg
open Go Go.RowKit
set_option linter.unusedVariables false
theorem absorb_block (s : S8) (b rest : List UInt8) (hb : b.length = 64) (v : S8) (hv : (compC s (blockW b)).list = v.list) : absorb s (b ++ rest) = absorb v rest := by
  rw [absorb_long _ _ (by simp; omega), blockW_append b rest (by omega), comp_eq, S8.of_list hv]
  congr 1
  rw [← hb, List.drop_left]
def kn0 : List UInt8 := []
def kb0_0 : List UInt8 := [128, 0, 0, 0, 0, 0, 0, 0, 0, 0, 0, 0, 0, 0, 0, 0, 0, 0, 0, 0, 0, 0, 0, 0, 0, 0, 0, 0, 0, 0, 0, 0, 0, 0, 0, 0, 0, 0, 0, 0, 0, 0, 0, 0, 0, 0, 0, 0, 0, 0, 0, 0, 0, 0, 0, 0, 0, 0, 0, 0, 0, 0, 0, 0]
set_option maxRecDepth 100000 in
theorem kc0_0 : (compC ⟨0x6a09e667, 0xbb67ae85, 0x3c6ef372, 0xa54ff53a, 0x510e527f, 0x9b05688c, 0x1f83d9ab, 0x5be0cd19⟩ (blockW kb0_0)).list = S8.list ⟨0xe3b0c442, 0x98fc1c14, 0x9afbf4c8, 0x996fb924, 0x27ae41e4, 0x649b934c, 0xa495991b, 0x7852b855⟩ := by decide +kernel
set_option maxRecDepth 100000 in
theorem kp0 : kn0 ++ padOf kn0.length = kb0_0 ++ [] := by decide +kernel
theorem ks0 : sha kn0 = outS ⟨0xe3b0c442, 0x98fc1c14, 0x9afbf4c8, 0x996fb924, 0x27ae41e4, 0x649b934c, 0xa495991b, 0x7852b855⟩ := by
  unfold sha
  rw [kp0, show S8.init = ⟨0x6a09e667, 0xbb67ae85, 0x3c6ef372, 0xa54ff53a, 0x510e527f, 0x9b05688c, 0x1f83d9ab, 0x5be0cd19⟩ from rfl, absorb_block _ kb0_0 _ (by decide) ⟨0xe3b0c442, 0x98fc1c14, 0x9afbf4c8, 0x996fb924, 0x27ae41e4, 0x649b934c, 0xa495991b, 0x7852b855⟩ kc0_0, absorb_short _ _ (by decide)]
def kh0 : List UInt8 := [101, 51, 98, 48, 99, 52, 52, 50, 57, 56, 102, 99, 49, 99, 49, 52, 57, 97, 102, 98, 102, 52, 99, 56, 57, 57, 54, 102, 98, 57, 50, 52, 50, 55, 97, 101, 52, 49, 101, 52, 54, 52, 57, 98, 57, 51, 52, 99, 97, 52, 57, 53, 57, 57, 49, 98, 55, 56, 53, 50, 98, 56, 53, 53]
theorem kx0 : hexL (sha kn0) = kh0 := by rw [ks0]; decide +kernel
def kn1 : List UInt8 := [97, 98, 99]
def kb1_0 : List UInt8 := [97, 98, 99, 128, 0, 0, 0, 0, 0, 0, 0, 0, 0, 0, 0, 0, 0, 0, 0, 0, 0, 0, 0, 0, 0, 0, 0, 0, 0, 0, 0, 0, 0, 0, 0, 0, 0, 0, 0, 0, 0, 0, 0, 0, 0, 0, 0, 0, 0, 0, 0, 0, 0, 0, 0, 0, 0, 0, 0, 0, 0, 0, 0, 24]
set_option maxRecDepth 100000 in
theorem kc1_0 : (compC ⟨0x6a09e667, 0xbb67ae85, 0x3c6ef372, 0xa54ff53a, 0x510e527f, 0x9b05688c, 0x1f83d9ab, 0x5be0cd19⟩ (blockW kb1_0)).list = S8.list ⟨0xba7816bf, 0x8f01cfea, 0x414140de, 0x5dae2223, 0xb00361a3, 0x96177a9c, 0xb410ff61, 0xf20015ad⟩ := by decide +kernel
set_option maxRecDepth 100000 in
theorem kp1 : kn1 ++ padOf kn1.length = kb1_0 ++ [] := by decide +kernel
theorem ks1 : sha kn1 = outS ⟨0xba7816bf, 0x8f01cfea, 0x414140de, 0x5dae2223, 0xb00361a3, 0x96177a9c, 0xb410ff61, 0xf20015ad⟩ := by
  unfold sha
  rw [kp1, show S8.init = ⟨0x6a09e667, 0xbb67ae85, 0x3c6ef372, 0xa54ff53a, 0x510e527f, 0x9b05688c, 0x1f83d9ab, 0x5be0cd19⟩ from rfl, absorb_block _ kb1_0 _ (by decide) ⟨0xba7816bf, 0x8f01cfea, 0x414140de, 0x5dae2223, 0xb00361a3, 0x96177a9c, 0xb410ff61, 0xf20015ad⟩ kc1_0, absorb_short _ _ (by decide)]
def kh1 : List UInt8 := [98, 97, 55, 56, 49, 54, 98, 102, 56, 102, 48, 49, 99, 102, 101, 97, 52, 49, 52, 49, 52, 48, 100, 101, 53, 100, 97, 101, 50, 50, 50, 51, 98, 48, 48, 51, 54, 49, 97, 51, 57, 54, 49, 55, 55, 97, 57, 99, 98, 52, 49, 48, 102, 102, 54, 49, 102, 50, 48, 48, 49, 53, 97, 100]
theorem kx1 : hexL (sha kn1) = kh1 := by rw [ks1]; decide +kernel
def kn2 : List UInt8 := [97, 98, 99, 100, 98, 99, 100, 101, 99, 100, 101, 102, 100, 101, 102, 103, 101, 102, 103, 104, 102, 103, 104, 105, 103, 104, 105, 106, 104, 105, 106, 107, 105, 106, 107, 108, 106, 107, 108, 109, 107, 108, 109, 110, 108, 109, 110, 111, 109, 110, 111, 112, 110, 111, 112, 113]
def kb2_0 : List UInt8 := [97, 98, 99, 100, 98, 99, 100, 101, 99, 100, 101, 102, 100, 101, 102, 103, 101, 102, 103, 104, 102, 103, 104, 105, 103, 104, 105, 106, 104, 105, 106, 107, 105, 106, 107, 108, 106, 107, 108, 109, 107, 108, 109, 110, 108, 109, 110, 111, 109, 110, 111, 112, 110, 111, 112, 113, 128, 0, 0, 0, 0, 0, 0, 0]
set_option maxRecDepth 100000 in
theorem kc2_0 : (compC ⟨0x6a09e667, 0xbb67ae85, 0x3c6ef372, 0xa54ff53a, 0x510e527f, 0x9b05688c, 0x1f83d9ab, 0x5be0cd19⟩ (blockW kb2_0)).list = S8.list ⟨0x85e655d6, 0x417a1795, 0x3363376a, 0x624cde5c, 0x76e09589, 0xcac5f811, 0xcc4b32c1, 0xf20e533a⟩ := by decide +kernel
def kb2_1 : List UInt8 := [0, 0, 0, 0, 0, 0, 0, 0, 0, 0, 0, 0, 0, 0, 0, 0, 0, 0, 0, 0, 0, 0, 0, 0, 0, 0, 0, 0, 0, 0, 0, 0, 0, 0, 0, 0, 0, 0, 0, 0, 0, 0, 0, 0, 0, 0, 0, 0, 0, 0, 0, 0, 0, 0, 0, 0, 0, 0, 0, 0, 0, 0, 1, 192]
set_option maxRecDepth 100000 in
theorem kc2_1 : (compC ⟨0x85e655d6, 0x417a1795, 0x3363376a, 0x624cde5c, 0x76e09589, 0xcac5f811, 0xcc4b32c1, 0xf20e533a⟩ (blockW kb2_1)).list = S8.list ⟨0x248d6a61, 0xd20638b8, 0xe5c02693, 0x0c3e6039, 0xa33ce459, 0x64ff2167, 0xf6ecedd4, 0x19db06c1⟩ := by decide +kernel
set_option maxRecDepth 100000 in
theorem kp2 : kn2 ++ padOf kn2.length = kb2_0 ++ (kb2_1 ++ []) := by decide +kernel
theorem ks2 : sha kn2 = outS ⟨0x248d6a61, 0xd20638b8, 0xe5c02693, 0x0c3e6039, 0xa33ce459, 0x64ff2167, 0xf6ecedd4, 0x19db06c1⟩ := by
  unfold sha
  rw [kp2, show S8.init = ⟨0x6a09e667, 0xbb67ae85, 0x3c6ef372, 0xa54ff53a, 0x510e527f, 0x9b05688c, 0x1f83d9ab, 0x5be0cd19⟩ from rfl, absorb_block _ kb2_0 _ (by decide) ⟨0x85e655d6, 0x417a1795, 0x3363376a, 0x624cde5c, 0x76e09589, 0xcac5f811, 0xcc4b32c1, 0xf20e533a⟩ kc2_0, absorb_block _ kb2_1 _ (by decide) ⟨0x248d6a61, 0xd20638b8, 0xe5c02693, 0x0c3e6039, 0xa33ce459, 0x64ff2167, 0xf6ecedd4, 0x19db06c1⟩ kc2_1, absorb_short _ _ (by decide)]
def kh2 : List UInt8 := [50, 52, 56, 100, 54, 97, 54, 49, 100, 50, 48, 54, 51, 56, 98, 56, 101, 53, 99, 48, 50, 54, 57, 51, 48, 99, 51, 101, 54, 48, 51, 57, 97, 51, 51, 99, 101, 52, 53, 57, 54, 52, 102, 102, 50, 49, 54, 55, 102, 54, 101, 99, 101, 100, 100, 52, 49, 57, 100, 98, 48, 54, 99, 49]
theorem kx2 : hexL (sha kn2) = kh2 := by rw [ks2]; decide +kernel
def kn3 : List UInt8 := List.replicate 55 0
def kb3_0 : List UInt8 := [0, 0, 0, 0, 0, 0, 0, 0, 0, 0, 0, 0, 0, 0, 0, 0, 0, 0, 0, 0, 0, 0, 0, 0, 0, 0, 0, 0, 0, 0, 0, 0, 0, 0, 0, 0, 0, 0, 0, 0, 0, 0, 0, 0, 0, 0, 0, 0, 0, 0, 0, 0, 0, 0, 0, 128, 0, 0, 0, 0, 0, 0, 1, 184]
set_option maxRecDepth 100000 in
theorem kc3_0 : (compC ⟨0x6a09e667, 0xbb67ae85, 0x3c6ef372, 0xa54ff53a, 0x510e527f, 0x9b05688c, 0x1f83d9ab, 0x5be0cd19⟩ (blockW kb3_0)).list = S8.list ⟨0x02779466, 0xcdec1638, 0x11d07881, 0x5c633f21, 0x90141308, 0x1449002f, 0x24aa3e80, 0xf0b88ef7⟩ := by decide +kernel
set_option maxRecDepth 100000 in
theorem kp3 : kn3 ++ padOf kn3.length = kb3_0 ++ [] := by decide +kernel
theorem ks3 : sha kn3 = outS ⟨0x02779466, 0xcdec1638, 0x11d07881, 0x5c633f21, 0x90141308, 0x1449002f, 0x24aa3e80, 0xf0b88ef7⟩ := by
  unfold sha
  rw [kp3, show S8.init = ⟨0x6a09e667, 0xbb67ae85, 0x3c6ef372, 0xa54ff53a, 0x510e527f, 0x9b05688c, 0x1f83d9ab, 0x5be0cd19⟩ from rfl, absorb_block _ kb3_0 _ (by decide) ⟨0x02779466, 0xcdec1638, 0x11d07881, 0x5c633f21, 0x90141308, 0x1449002f, 0x24aa3e80, 0xf0b88ef7⟩ kc3_0, absorb_short _ _ (by decide)]
def kh3 : List UInt8 := [48, 50, 55, 55, 57, 52, 54, 54, 99, 100, 101, 99, 49, 54, 51, 56, 49, 49, 100, 48, 55, 56, 56, 49, 53, 99, 54, 51, 51, 102, 50, 49, 57, 48, 49, 52, 49, 51, 48, 56, 49, 52, 52, 57, 48, 48, 50, 102, 50, 52, 97, 97, 51, 101, 56, 48, 102, 48, 98, 56, 56, 101, 102, 55]
theorem kx3 : hexL (sha kn3) = kh3 := by rw [ks3]; decide +kernel
def kn4 : List UInt8 := List.replicate 56 0
def kb4_0 : List UInt8 := [0, 0, 0, 0, 0, 0, 0, 0, 0, 0, 0, 0, 0, 0, 0, 0, 0, 0, 0, 0, 0, 0, 0, 0, 0, 0, 0, 0, 0, 0, 0, 0, 0, 0, 0, 0, 0, 0, 0, 0, 0, 0, 0, 0, 0, 0, 0, 0, 0, 0, 0, 0, 0, 0, 0, 0, 128, 0, 0, 0, 0, 0, 0, 0]
set_option maxRecDepth 100000 in
theorem kc4_0 : (compC ⟨0x6a09e667, 0xbb67ae85, 0x3c6ef372, 0xa54ff53a, 0x510e527f, 0x9b05688c, 0x1f83d9ab, 0x5be0cd19⟩ (blockW kb4_0)).list = S8.list ⟨0x2a7e5b55, 0xb71513c5, 0x33eec88b, 0x15f488c4, 0xdd8ac6e6, 0x8fdc4096, 0x2ab81b6b, 0x4d599744⟩ := by decide +kernel
def kb4_1 : List UInt8 := [0, 0, 0, 0, 0, 0, 0, 0, 0, 0, 0, 0, 0, 0, 0, 0, 0, 0, 0, 0, 0, 0, 0, 0, 0, 0, 0, 0, 0, 0, 0, 0, 0, 0, 0, 0, 0, 0, 0, 0, 0, 0, 0, 0, 0, 0, 0, 0, 0, 0, 0, 0, 0, 0, 0, 0, 0, 0, 0, 0, 0, 0, 1, 192]
set_option maxRecDepth 100000 in
theorem kc4_1 : (compC ⟨0x2a7e5b55, 0xb71513c5, 0x33eec88b, 0x15f488c4, 0xdd8ac6e6, 0x8fdc4096, 0x2ab81b6b, 0x4d599744⟩ (blockW kb4_1)).list = S8.list ⟨0xd4817aa5, 0x497628e7, 0xc77e6b60, 0x6107042b, 0xbba31308, 0x88c5f47a, 0x375e6179, 0xbe789fbb⟩ := by decide +kernel
set_option maxRecDepth 100000 in
theorem kp4 : kn4 ++ padOf kn4.length = kb4_0 ++ (kb4_1 ++ []) := by decide +kernel
theorem ks4 : sha kn4 = outS ⟨0xd4817aa5, 0x497628e7, 0xc77e6b60, 0x6107042b, 0xbba31308, 0x88c5f47a, 0x375e6179, 0xbe789fbb⟩ := by
  unfold sha
  rw [kp4, show S8.init = ⟨0x6a09e667, 0xbb67ae85, 0x3c6ef372, 0xa54ff53a, 0x510e527f, 0x9b05688c, 0x1f83d9ab, 0x5be0cd19⟩ from rfl, absorb_block _ kb4_0 _ (by decide) ⟨0x2a7e5b55, 0xb71513c5, 0x33eec88b, 0x15f488c4, 0xdd8ac6e6, 0x8fdc4096, 0x2ab81b6b, 0x4d599744⟩ kc4_0, absorb_block _ kb4_1 _ (by decide) ⟨0xd4817aa5, 0x497628e7, 0xc77e6b60, 0x6107042b, 0xbba31308, 0x88c5f47a, 0x375e6179, 0xbe789fbb⟩ kc4_1, absorb_short _ _ (by decide)]
def kh4 : List UInt8 := [100, 52, 56, 49, 55, 97, 97, 53, 52, 57, 55, 54, 50, 56, 101, 55, 99, 55, 55, 101, 54, 98, 54, 48, 54, 49, 48, 55, 48, 52, 50, 98, 98, 98, 97, 51, 49, 51, 48, 56, 56, 56, 99, 53, 102, 52, 55, 97, 51, 55, 53, 101, 54, 49, 55, 57, 98, 101, 55, 56, 57, 102, 98, 98]
theorem kx4 : hexL (sha kn4) = kh4 := by rw [ks4]; decide +kernel
def kn5 : List UInt8 := List.replicate 64 0
def kb5_0 : List UInt8 := [0, 0, 0, 0, 0, 0, 0, 0, 0, 0, 0, 0, 0, 0, 0, 0, 0, 0, 0, 0, 0, 0, 0, 0, 0, 0, 0, 0, 0, 0, 0, 0, 0, 0, 0, 0, 0, 0, 0, 0, 0, 0, 0, 0, 0, 0, 0, 0, 0, 0, 0, 0, 0, 0, 0, 0, 0, 0, 0, 0, 0, 0, 0, 0]
set_option maxRecDepth 100000 in
theorem kc5_0 : (compC ⟨0x6a09e667, 0xbb67ae85, 0x3c6ef372, 0xa54ff53a, 0x510e527f, 0x9b05688c, 0x1f83d9ab, 0x5be0cd19⟩ (blockW kb5_0)).list = S8.list ⟨0xda5698be, 0x17b9b469, 0x62335799, 0x779fbeca, 0x8ce5d491, 0xc0d26243, 0xbafef9ea, 0x1837a9d8⟩ := by decide +kernel
def kb5_1 : List UInt8 := [128, 0, 0, 0, 0, 0, 0, 0, 0, 0, 0, 0, 0, 0, 0, 0, 0, 0, 0, 0, 0, 0, 0, 0, 0, 0, 0, 0, 0, 0, 0, 0, 0, 0, 0, 0, 0, 0, 0, 0, 0, 0, 0, 0, 0, 0, 0, 0, 0, 0, 0, 0, 0, 0, 0, 0, 0, 0, 0, 0, 0, 0, 2, 0]
set_option maxRecDepth 100000 in
theorem kc5_1 : (compC ⟨0xda5698be, 0x17b9b469, 0x62335799, 0x779fbeca, 0x8ce5d491, 0xc0d26243, 0xbafef9ea, 0x1837a9d8⟩ (blockW kb5_1)).list = S8.list ⟨0xf5a5fd42, 0xd16a2030, 0x2798ef6e, 0xd309979b, 0x43003d23, 0x20d9f0e8, 0xea9831a9, 0x2759fb4b⟩ := by decide +kernel
set_option maxRecDepth 100000 in
theorem kp5 : kn5 ++ padOf kn5.length = kb5_0 ++ (kb5_1 ++ []) := by decide +kernel
theorem ks5 : sha kn5 = outS ⟨0xf5a5fd42, 0xd16a2030, 0x2798ef6e, 0xd309979b, 0x43003d23, 0x20d9f0e8, 0xea9831a9, 0x2759fb4b⟩ := by
  unfold sha
  rw [kp5, show S8.init = ⟨0x6a09e667, 0xbb67ae85, 0x3c6ef372, 0xa54ff53a, 0x510e527f, 0x9b05688c, 0x1f83d9ab, 0x5be0cd19⟩ from rfl, absorb_block _ kb5_0 _ (by decide) ⟨0xda5698be, 0x17b9b469, 0x62335799, 0x779fbeca, 0x8ce5d491, 0xc0d26243, 0xbafef9ea, 0x1837a9d8⟩ kc5_0, absorb_block _ kb5_1 _ (by decide) ⟨0xf5a5fd42, 0xd16a2030, 0x2798ef6e, 0xd309979b, 0x43003d23, 0x20d9f0e8, 0xea9831a9, 0x2759fb4b⟩ kc5_1, absorb_short _ _ (by decide)]
def kh5 : List UInt8 := [102, 53, 97, 53, 102, 100, 52, 50, 100, 49, 54, 97, 50, 48, 51, 48, 50, 55, 57, 56, 101, 102, 54, 101, 100, 51, 48, 57, 57, 55, 57, 98, 52, 51, 48, 48, 51, 100, 50, 51, 50, 48, 100, 57, 102, 48, 101, 56, 101, 97, 57, 56, 51, 49, 97, 57, 50, 55, 53, 57, 102, 98, 52, 98]
theorem kx5 : hexL (sha kn5) = kh5 := by rw [ks5]; decide +kernel
def kn6 : List UInt8 := (List.range 1000).map fun i => UInt8.ofNat (7 * i)
def kb6_0 : List UInt8 := [0, 7, 14, 21, 28, 35, 42, 49, 56, 63, 70, 77, 84, 91, 98, 105, 112, 119, 126, 133, 140, 147, 154, 161, 168, 175, 182, 189, 196, 203, 210, 217, 224, 231, 238, 245, 252, 3, 10, 17, 24, 31, 38, 45, 52, 59, 66, 73, 80, 87, 94, 101, 108, 115, 122, 129, 136, 143, 150, 157, 164, 171, 178, 185]
set_option maxRecDepth 100000 in
theorem kc6_0 : (compC ⟨0x6a09e667, 0xbb67ae85, 0x3c6ef372, 0xa54ff53a, 0x510e527f, 0x9b05688c, 0x1f83d9ab, 0x5be0cd19⟩ (blockW kb6_0)).list = S8.list ⟨0x6c69017d, 0x0ec50641, 0xde6d1abd, 0xce75003d, 0x11218e34, 0xb3c98da1, 0x2ff25b89, 0x82156de4⟩ := by decide +kernel
def kb6_1 : List UInt8 := [192, 199, 206, 213, 220, 227, 234, 241, 248, 255, 6, 13, 20, 27, 34, 41, 48, 55, 62, 69, 76, 83, 90, 97, 104, 111, 118, 125, 132, 139, 146, 153, 160, 167, 174, 181, 188, 195, 202, 209, 216, 223, 230, 237, 244, 251, 2, 9, 16, 23, 30, 37, 44, 51, 58, 65, 72, 79, 86, 93, 100, 107, 114, 121]
set_option maxRecDepth 100000 in
theorem kc6_1 : (compC ⟨0x6c69017d, 0x0ec50641, 0xde6d1abd, 0xce75003d, 0x11218e34, 0xb3c98da1, 0x2ff25b89, 0x82156de4⟩ (blockW kb6_1)).list = S8.list ⟨0xe5c73ed0, 0x831699a0, 0x37b42c36, 0xd7e3d031, 0xfcdefdb7, 0x049a9639, 0xafe075ae, 0x38f951a0⟩ := by decide +kernel
def kb6_2 : List UInt8 := [128, 135, 142, 149, 156, 163, 170, 177, 184, 191, 198, 205, 212, 219, 226, 233, 240, 247, 254, 5, 12, 19, 26, 33, 40, 47, 54, 61, 68, 75, 82, 89, 96, 103, 110, 117, 124, 131, 138, 145, 152, 159, 166, 173, 180, 187, 194, 201, 208, 215, 222, 229, 236, 243, 250, 1, 8, 15, 22, 29, 36, 43, 50, 57]
set_option maxRecDepth 100000 in
theorem kc6_2 : (compC ⟨0xe5c73ed0, 0x831699a0, 0x37b42c36, 0xd7e3d031, 0xfcdefdb7, 0x049a9639, 0xafe075ae, 0x38f951a0⟩ (blockW kb6_2)).list = S8.list ⟨0xe3e373e3, 0xdb0a3adf, 0x2e69c78a, 0x752a0800, 0x8e3a701f, 0x1e90baed, 0x91703291, 0x4f88d8de⟩ := by decide +kernel
def kb6_3 : List UInt8 := [64, 71, 78, 85, 92, 99, 106, 113, 120, 127, 134, 141, 148, 155, 162, 169, 176, 183, 190, 197, 204, 211, 218, 225, 232, 239, 246, 253, 4, 11, 18, 25, 32, 39, 46, 53, 60, 67, 74, 81, 88, 95, 102, 109, 116, 123, 130, 137, 144, 151, 158, 165, 172, 179, 186, 193, 200, 207, 214, 221, 228, 235, 242, 249]
set_option maxRecDepth 100000 in
theorem kc6_3 : (compC ⟨0xe3e373e3, 0xdb0a3adf, 0x2e69c78a, 0x752a0800, 0x8e3a701f, 0x1e90baed, 0x91703291, 0x4f88d8de⟩ (blockW kb6_3)).list = S8.list ⟨0xa3d3682c, 0xc18c180c, 0x62b1ea31, 0x674fd613, 0xefbbe362, 0x8b8cd6ce, 0x48758bf3, 0x981a27a6⟩ := by decide +kernel
def kb6_4 : List UInt8 := [0, 7, 14, 21, 28, 35, 42, 49, 56, 63, 70, 77, 84, 91, 98, 105, 112, 119, 126, 133, 140, 147, 154, 161, 168, 175, 182, 189, 196, 203, 210, 217, 224, 231, 238, 245, 252, 3, 10, 17, 24, 31, 38, 45, 52, 59, 66, 73, 80, 87, 94, 101, 108, 115, 122, 129, 136, 143, 150, 157, 164, 171, 178, 185]
set_option maxRecDepth 100000 in
theorem kc6_4 : (compC ⟨0xa3d3682c, 0xc18c180c, 0x62b1ea31, 0x674fd613, 0xefbbe362, 0x8b8cd6ce, 0x48758bf3, 0x981a27a6⟩ (blockW kb6_4)).list = S8.list ⟨0xac4d3c27, 0xbcc7432b, 0xee63053b, 0x1e2f3c5a, 0x09219ee1, 0xc3894ebd, 0xa31fdda3, 0x89a11dd0⟩ := by decide +kernel
def kb6_5 : List UInt8 := [192, 199, 206, 213, 220, 227, 234, 241, 248, 255, 6, 13, 20, 27, 34, 41, 48, 55, 62, 69, 76, 83, 90, 97, 104, 111, 118, 125, 132, 139, 146, 153, 160, 167, 174, 181, 188, 195, 202, 209, 216, 223, 230, 237, 244, 251, 2, 9, 16, 23, 30, 37, 44, 51, 58, 65, 72, 79, 86, 93, 100, 107, 114, 121]
set_option maxRecDepth 100000 in
theorem kc6_5 : (compC ⟨0xac4d3c27, 0xbcc7432b, 0xee63053b, 0x1e2f3c5a, 0x09219ee1, 0xc3894ebd, 0xa31fdda3, 0x89a11dd0⟩ (blockW kb6_5)).list = S8.list ⟨0x8acd3c96, 0x43011f86, 0xe838c14c, 0xcb7aaa5a, 0x5b541a3a, 0x88ed1307, 0xc2ce0a27, 0x6afc3b74⟩ := by decide +kernel
def kb6_6 : List UInt8 := [128, 135, 142, 149, 156, 163, 170, 177, 184, 191, 198, 205, 212, 219, 226, 233, 240, 247, 254, 5, 12, 19, 26, 33, 40, 47, 54, 61, 68, 75, 82, 89, 96, 103, 110, 117, 124, 131, 138, 145, 152, 159, 166, 173, 180, 187, 194, 201, 208, 215, 222, 229, 236, 243, 250, 1, 8, 15, 22, 29, 36, 43, 50, 57]
set_option maxRecDepth 100000 in
theorem kc6_6 : (compC ⟨0x8acd3c96, 0x43011f86, 0xe838c14c, 0xcb7aaa5a, 0x5b541a3a, 0x88ed1307, 0xc2ce0a27, 0x6afc3b74⟩ (blockW kb6_6)).list = S8.list ⟨0x55ba974d, 0xf40d9976, 0x7bd1a7ad, 0xc57ca66b, 0x4b5535d2, 0xe6cf2712, 0x20341d03, 0x922ebb1f⟩ := by decide +kernel
def kb6_7 : List UInt8 := [64, 71, 78, 85, 92, 99, 106, 113, 120, 127, 134, 141, 148, 155, 162, 169, 176, 183, 190, 197, 204, 211, 218, 225, 232, 239, 246, 253, 4, 11, 18, 25, 32, 39, 46, 53, 60, 67, 74, 81, 88, 95, 102, 109, 116, 123, 130, 137, 144, 151, 158, 165, 172, 179, 186, 193, 200, 207, 214, 221, 228, 235, 242, 249]
set_option maxRecDepth 100000 in
theorem kc6_7 : (compC ⟨0x55ba974d, 0xf40d9976, 0x7bd1a7ad, 0xc57ca66b, 0x4b5535d2, 0xe6cf2712, 0x20341d03, 0x922ebb1f⟩ (blockW kb6_7)).list = S8.list ⟨0xf2d33955, 0x1183f29c, 0x445c9019, 0x22aefd4d, 0x30e9fded, 0x283e749a, 0x6f2baedd, 0xd333bf52⟩ := by decide +kernel
def kb6_8 : List UInt8 := [0, 7, 14, 21, 28, 35, 42, 49, 56, 63, 70, 77, 84, 91, 98, 105, 112, 119, 126, 133, 140, 147, 154, 161, 168, 175, 182, 189, 196, 203, 210, 217, 224, 231, 238, 245, 252, 3, 10, 17, 24, 31, 38, 45, 52, 59, 66, 73, 80, 87, 94, 101, 108, 115, 122, 129, 136, 143, 150, 157, 164, 171, 178, 185]
set_option maxRecDepth 100000 in
theorem kc6_8 : (compC ⟨0xf2d33955, 0x1183f29c, 0x445c9019, 0x22aefd4d, 0x30e9fded, 0x283e749a, 0x6f2baedd, 0xd333bf52⟩ (blockW kb6_8)).list = S8.list ⟨0x662f95c8, 0xb6be145a, 0x33afd425, 0x13d9067f, 0xdb61c733, 0x5f621119, 0x88c0a251, 0x714b3087⟩ := by decide +kernel
def kb6_9 : List UInt8 := [192, 199, 206, 213, 220, 227, 234, 241, 248, 255, 6, 13, 20, 27, 34, 41, 48, 55, 62, 69, 76, 83, 90, 97, 104, 111, 118, 125, 132, 139, 146, 153, 160, 167, 174, 181, 188, 195, 202, 209, 216, 223, 230, 237, 244, 251, 2, 9, 16, 23, 30, 37, 44, 51, 58, 65, 72, 79, 86, 93, 100, 107, 114, 121]
set_option maxRecDepth 100000 in
theorem kc6_9 : (compC ⟨0x662f95c8, 0xb6be145a, 0x33afd425, 0x13d9067f, 0xdb61c733, 0x5f621119, 0x88c0a251, 0x714b3087⟩ (blockW kb6_9)).list = S8.list ⟨0xe61d8b64, 0x4f2f759e, 0x28c6b424, 0x220d5c13, 0xb7212f83, 0x26c77efc, 0x48bcf5cb, 0x1dc85ba0⟩ := by decide +kernel
def kb6_10 : List UInt8 := [128, 135, 142, 149, 156, 163, 170, 177, 184, 191, 198, 205, 212, 219, 226, 233, 240, 247, 254, 5, 12, 19, 26, 33, 40, 47, 54, 61, 68, 75, 82, 89, 96, 103, 110, 117, 124, 131, 138, 145, 152, 159, 166, 173, 180, 187, 194, 201, 208, 215, 222, 229, 236, 243, 250, 1, 8, 15, 22, 29, 36, 43, 50, 57]
set_option maxRecDepth 100000 in
theorem kc6_10 : (compC ⟨0xe61d8b64, 0x4f2f759e, 0x28c6b424, 0x220d5c13, 0xb7212f83, 0x26c77efc, 0x48bcf5cb, 0x1dc85ba0⟩ (blockW kb6_10)).list = S8.list ⟨0x473142b0, 0x358d7708, 0x64b0f21a, 0xa5e9599a, 0x36b3f2cc, 0xa42c1028, 0x02ddead3, 0xdd613d7c⟩ := by decide +kernel
def kb6_11 : List UInt8 := [64, 71, 78, 85, 92, 99, 106, 113, 120, 127, 134, 141, 148, 155, 162, 169, 176, 183, 190, 197, 204, 211, 218, 225, 232, 239, 246, 253, 4, 11, 18, 25, 32, 39, 46, 53, 60, 67, 74, 81, 88, 95, 102, 109, 116, 123, 130, 137, 144, 151, 158, 165, 172, 179, 186, 193, 200, 207, 214, 221, 228, 235, 242, 249]
set_option maxRecDepth 100000 in
theorem kc6_11 : (compC ⟨0x473142b0, 0x358d7708, 0x64b0f21a, 0xa5e9599a, 0x36b3f2cc, 0xa42c1028, 0x02ddead3, 0xdd613d7c⟩ (blockW kb6_11)).list = S8.list ⟨0xc675470c, 0x7b0d4134, 0x2253aca5, 0xed52ecf7, 0x5efaf7e7, 0x180f2931, 0xf3cd6cd5, 0xa3b28383⟩ := by decide +kernel
def kb6_12 : List UInt8 := [0, 7, 14, 21, 28, 35, 42, 49, 56, 63, 70, 77, 84, 91, 98, 105, 112, 119, 126, 133, 140, 147, 154, 161, 168, 175, 182, 189, 196, 203, 210, 217, 224, 231, 238, 245, 252, 3, 10, 17, 24, 31, 38, 45, 52, 59, 66, 73, 80, 87, 94, 101, 108, 115, 122, 129, 136, 143, 150, 157, 164, 171, 178, 185]
set_option maxRecDepth 100000 in
theorem kc6_12 : (compC ⟨0xc675470c, 0x7b0d4134, 0x2253aca5, 0xed52ecf7, 0x5efaf7e7, 0x180f2931, 0xf3cd6cd5, 0xa3b28383⟩ (blockW kb6_12)).list = S8.list ⟨0x5c28e91e, 0xbfb35e83, 0x770f3e55, 0xf72bc7e8, 0xf87cf292, 0xc5e40e90, 0xe05cab4c, 0x2c95762f⟩ := by decide +kernel
def kb6_13 : List UInt8 := [192, 199, 206, 213, 220, 227, 234, 241, 248, 255, 6, 13, 20, 27, 34, 41, 48, 55, 62, 69, 76, 83, 90, 97, 104, 111, 118, 125, 132, 139, 146, 153, 160, 167, 174, 181, 188, 195, 202, 209, 216, 223, 230, 237, 244, 251, 2, 9, 16, 23, 30, 37, 44, 51, 58, 65, 72, 79, 86, 93, 100, 107, 114, 121]
set_option maxRecDepth 100000 in
theorem kc6_13 : (compC ⟨0x5c28e91e, 0xbfb35e83, 0x770f3e55, 0xf72bc7e8, 0xf87cf292, 0xc5e40e90, 0xe05cab4c, 0x2c95762f⟩ (blockW kb6_13)).list = S8.list ⟨0x4c933353, 0xcbd64718, 0xbd7e7240, 0x453cf888, 0xa5d46b80, 0xae81651e, 0x529648ca, 0x6d2f9b34⟩ := by decide +kernel
def kb6_14 : List UInt8 := [128, 135, 142, 149, 156, 163, 170, 177, 184, 191, 198, 205, 212, 219, 226, 233, 240, 247, 254, 5, 12, 19, 26, 33, 40, 47, 54, 61, 68, 75, 82, 89, 96, 103, 110, 117, 124, 131, 138, 145, 152, 159, 166, 173, 180, 187, 194, 201, 208, 215, 222, 229, 236, 243, 250, 1, 8, 15, 22, 29, 36, 43, 50, 57]
set_option maxRecDepth 100000 in
theorem kc6_14 : (compC ⟨0x4c933353, 0xcbd64718, 0xbd7e7240, 0x453cf888, 0xa5d46b80, 0xae81651e, 0x529648ca, 0x6d2f9b34⟩ (blockW kb6_14)).list = S8.list ⟨0xa58197f9, 0xb6db7b47, 0xebecb4b6, 0xd1fcdbaf, 0x87864cbb, 0x30a87914, 0x6f311d42, 0xb6f33a43⟩ := by decide +kernel
def kb6_15 : List UInt8 := [64, 71, 78, 85, 92, 99, 106, 113, 120, 127, 134, 141, 148, 155, 162, 169, 176, 183, 190, 197, 204, 211, 218, 225, 232, 239, 246, 253, 4, 11, 18, 25, 32, 39, 46, 53, 60, 67, 74, 81, 128, 0, 0, 0, 0, 0, 0, 0, 0, 0, 0, 0, 0, 0, 0, 0, 0, 0, 0, 0, 0, 0, 31, 64]
set_option maxRecDepth 100000 in
theorem kc6_15 : (compC ⟨0xa58197f9, 0xb6db7b47, 0xebecb4b6, 0xd1fcdbaf, 0x87864cbb, 0x30a87914, 0x6f311d42, 0xb6f33a43⟩ (blockW kb6_15)).list = S8.list ⟨0x89f4ff56, 0xa25dd1db, 0x06a4ce60, 0x33603775, 0xd705fb96, 0xf30f8693, 0x733fef60, 0x2a1ca532⟩ := by decide +kernel
set_option maxRecDepth 100000 in
theorem kp6 : kn6 ++ padOf kn6.length = kb6_0 ++ (kb6_1 ++ (kb6_2 ++ (kb6_3 ++ (kb6_4 ++ (kb6_5 ++ (kb6_6 ++ (kb6_7 ++ (kb6_8 ++ (kb6_9 ++ (kb6_10 ++ (kb6_11 ++ (kb6_12 ++ (kb6_13 ++ (kb6_14 ++ (kb6_15 ++ []))))))))))))))) := by decide +kernel
theorem ks6 : sha kn6 = outS ⟨0x89f4ff56, 0xa25dd1db, 0x06a4ce60, 0x33603775, 0xd705fb96, 0xf30f8693, 0x733fef60, 0x2a1ca532⟩ := by
  unfold sha
  rw [kp6, show S8.init = ⟨0x6a09e667, 0xbb67ae85, 0x3c6ef372, 0xa54ff53a, 0x510e527f, 0x9b05688c, 0x1f83d9ab, 0x5be0cd19⟩ from rfl, absorb_block _ kb6_0 _ (by decide) ⟨0x6c69017d, 0x0ec50641, 0xde6d1abd, 0xce75003d, 0x11218e34, 0xb3c98da1, 0x2ff25b89, 0x82156de4⟩ kc6_0, absorb_block _ kb6_1 _ (by decide) ⟨0xe5c73ed0, 0x831699a0, 0x37b42c36, 0xd7e3d031, 0xfcdefdb7, 0x049a9639, 0xafe075ae, 0x38f951a0⟩ kc6_1, absorb_block _ kb6_2 _ (by decide) ⟨0xe3e373e3, 0xdb0a3adf, 0x2e69c78a, 0x752a0800, 0x8e3a701f, 0x1e90baed, 0x91703291, 0x4f88d8de⟩ kc6_2, absorb_block _ kb6_3 _ (by decide) ⟨0xa3d3682c, 0xc18c180c, 0x62b1ea31, 0x674fd613, 0xefbbe362, 0x8b8cd6ce, 0x48758bf3, 0x981a27a6⟩ kc6_3, absorb_block _ kb6_4 _ (by decide) ⟨0xac4d3c27, 0xbcc7432b, 0xee63053b, 0x1e2f3c5a, 0x09219ee1, 0xc3894ebd, 0xa31fdda3, 0x89a11dd0⟩ kc6_4, absorb_block _ kb6_5 _ (by decide) ⟨0x8acd3c96, 0x43011f86, 0xe838c14c, 0xcb7aaa5a, 0x5b541a3a, 0x88ed1307, 0xc2ce0a27, 0x6afc3b74⟩ kc6_5, absorb_block _ kb6_6 _ (by decide) ⟨0x55ba974d, 0xf40d9976, 0x7bd1a7ad, 0xc57ca66b, 0x4b5535d2, 0xe6cf2712, 0x20341d03, 0x922ebb1f⟩ kc6_6, absorb_block _ kb6_7 _ (by decide) ⟨0xf2d33955, 0x1183f29c, 0x445c9019, 0x22aefd4d, 0x30e9fded, 0x283e749a, 0x6f2baedd, 0xd333bf52⟩ kc6_7, absorb_block _ kb6_8 _ (by decide) ⟨0x662f95c8, 0xb6be145a, 0x33afd425, 0x13d9067f, 0xdb61c733, 0x5f621119, 0x88c0a251, 0x714b3087⟩ kc6_8, absorb_block _ kb6_9 _ (by decide) ⟨0xe61d8b64, 0x4f2f759e, 0x28c6b424, 0x220d5c13, 0xb7212f83, 0x26c77efc, 0x48bcf5cb, 0x1dc85ba0⟩ kc6_9, absorb_block _ kb6_10 _ (by decide) ⟨0x473142b0, 0x358d7708, 0x64b0f21a, 0xa5e9599a, 0x36b3f2cc, 0xa42c1028, 0x02ddead3, 0xdd613d7c⟩ kc6_10, absorb_block _ kb6_11 _ (by decide) ⟨0xc675470c, 0x7b0d4134, 0x2253aca5, 0xed52ecf7, 0x5efaf7e7, 0x180f2931, 0xf3cd6cd5, 0xa3b28383⟩ kc6_11, absorb_block _ kb6_12 _ (by decide) ⟨0x5c28e91e, 0xbfb35e83, 0x770f3e55, 0xf72bc7e8, 0xf87cf292, 0xc5e40e90, 0xe05cab4c, 0x2c95762f⟩ kc6_12, absorb_block _ kb6_13 _ (by decide) ⟨0x4c933353, 0xcbd64718, 0xbd7e7240, 0x453cf888, 0xa5d46b80, 0xae81651e, 0x529648ca, 0x6d2f9b34⟩ kc6_13, absorb_block _ kb6_14 _ (by decide) ⟨0xa58197f9, 0xb6db7b47, 0xebecb4b6, 0xd1fcdbaf, 0x87864cbb, 0x30a87914, 0x6f311d42, 0xb6f33a43⟩ kc6_14, absorb_block _ kb6_15 _ (by decide) ⟨0x89f4ff56, 0xa25dd1db, 0x06a4ce60, 0x33603775, 0xd705fb96, 0xf30f8693, 0x733fef60, 0x2a1ca532⟩ kc6_15, absorb_short _ _ (by decide)]
def kh6 : List UInt8 := [56, 57, 102, 52, 102, 102, 53, 54, 97, 50, 53, 100, 100, 49, 100, 98, 48, 54, 97, 52, 99, 101, 54, 48, 51, 51, 54, 48, 51, 55, 55, 53, 100, 55, 48, 53, 102, 98, 57, 54, 102, 51, 48, 102, 56, 54, 57, 51, 55, 51, 51, 102, 101, 102, 54, 48, 50, 97, 49, 99, 97, 53, 51, 50]
theorem kx6 : hexL (sha kn6) = kh6 := by rw [ks6]; decide +kernel
end Go.Proofs.YtbaeddppihjgfaaDoor.Sg
