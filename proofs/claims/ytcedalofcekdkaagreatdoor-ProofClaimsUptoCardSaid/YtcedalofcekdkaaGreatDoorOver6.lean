/- Closed facts of the row of ProofClaims, in its second form. -/
import Derived.Test.YtcedalofcekdkaaGreatDoorOver0
import Derived.Test.YtcedalofcekdkaaGreatDoorOverJ
import Derived.WalkKit
set_option linter.unusedSimpArgs false
set_option linter.unusedVariables false
namespace Go.Proofs.YtcedalofcekdkaaGreatDoor.proofClaims
set_option maxRecDepth 100000
theorem clos : Tryz.prog.closure 6 = [6, 8, 33, 32, 82, 152, 80, 148, 99, 174, 176, 247, 248, 175, 177, 246, 149, 207, 272, 346, 347, 399, 444, 445, 271, 345, 208, 274, 273, 178, 211, 206, 269, 340, 339, 275, 341, 233, 304, 305, 398, 436, 437, 470, 438, 371, 372, 439, 471, 472, 476, 440, 441, 442, 443, 64, 135, 200, 136, 201, 134, 137, 342, 343, 219, 344, 270, 150, 210, 209, 216, 278, 44, 106, 187, 256, 257, 334, 335, 258, 259, 336, 337, 396, 397, 108, 188, 260, 109, 85, 154, 155, 81, 151, 213, 276, 348, 349, 361, 326, 393, 350, 351, 400, 352, 353, 354, 355, 212, 215, 214, 277, 84, 83, 153, 20, 63, 133, 65, 66, 138, 67, 139, 140, 68, 69, 72, 70, 71, 10, 16, 17, 51, 50, 112, 193, 114, 113, 194, 115, 195, 231, 196, 52, 53, 116, 118, 117, 119, 197, 262, 120, 121, 122, 123, 125, 124, 198, 199, 263, 264, 265, 266, 126, 127, 54, 55, 128, 57, 129, 56, 131, 130, 35, 34, 86, 36, 41, 101, 102, 87, 95, 167, 96, 168, 88, 157, 217, 218, 220, 221, 156, 90, 91, 89, 158, 222, 223, 279, 224, 225, 280, 281, 356, 357, 358, 282, 359, 159, 226, 227, 283, 360, 285, 284, 228, 286, 287, 288, 362, 363, 161, 229, 289, 364, 401, 446, 447, 325, 290, 365, 366, 402, 448, 449, 367, 368, 291, 292, 293, 294, 369, 403, 404, 450, 405, 406, 451, 452, 473, 407, 408, 409, 410, 295, 234, 160, 230, 162, 232, 296, 297, 370, 298, 299, 373, 374, 411, 300, 301, 302, 303, 163, 37, 38, 92, 93, 11, 42, 103, 179, 249, 250, 327, 180, 251, 181, 252, 328, 394, 329, 330, 331, 395, 43, 104, 182, 253, 332, 333, 105, 183, 254, 184, 185, 255, 186, 18, 39, 94, 164, 100, 235, 306, 307, 308, 236, 309, 165, 237, 166, 238, 98, 172, 245, 173, 97, 169, 239, 310, 311, 375, 412, 376, 413, 453, 454, 455, 423, 474, 457, 414, 456, 415, 459, 460, 461, 458, 416, 417, 418, 462, 419, 463, 464, 465, 420, 466, 377, 421, 422, 378, 312, 240, 313, 379, 314, 315, 316, 317, 318, 45, 107, 189, 261, 319, 380, 320, 382, 424, 425, 467, 426, 427, 468, 469, 475, 428, 429, 430, 431, 381, 322, 170, 241, 242, 321, 171, 243, 323, 383, 384, 385, 386, 388, 387, 432, 324, 389, 433, 390, 434, 391, 392, 435, 244, 13, 12, 40, 19, 58, 29, 76, 59, 132, 60, 61, 62, 21, 22, 73, 141, 23, 24, 74, 75, 25, 26, 27, 28] := by kernel_rfl
theorem isNamed : Tryz.pinned.checked.prog.funcNamed Rows.proofClaimsUptoRow.func = some 6 := by kernel_rfl
theorem k1 : Rows.proofClaimsUptoRow.wf (OpenSpec.ofChange (Rows.OpenSpec.upto Rows.proofClaimsSpec).bare) = true := by kernel_rfl
theorem k4 : Tryz.f6.params.all (Tryz.prog.readableRec ·) = true := by kernel_rfl
theorem k5 : namedTie Tryz.prog Rows.proofClaimsUptoRow.named (Rows.OpenSpec.upto Rows.proofClaimsSpec).bare.vars = true := by kernel_rfl
theorem k6 : (Rows.proofClaimsUptoRow.stops == []) = true := by kernel_rfl
theorem k8 : (Rows.proofClaimsUptoRow.knobs == []) = true := by kernel_rfl
theorem k10 : (Rows.proofClaimsUptoRow.inPlace == Tryz.prog.inPlace 6) = true := by
  unfold Program.inPlace
  rw [clos]
  kernel_rfl
theorem unf : Tryz.prog.unfollowed 6 = true := by
  unfold Program.unfollowed
  rw [clos]
  kernel_rfl
theorem k11 : (Rows.proofClaimsUptoRow.unfollowed == Tryz.prog.unfollowed 6) = true := by rw [unf]; rfl
theorem k12 : (Rows.proofClaimsUptoRow.recurses == Tryz.prog.recurses 6) = true := by rw [over.recurses_of unf]; rfl
theorem k13 : (Rows.proofClaimsUptoRow.named == Tryz.prog.varsNamed 6) = true := by
  unfold Program.varsNamed
  rw [clos]
  kernel_rfl
theorem k14 : (Rows.proofClaimsUptoRow.maps == (Tryz.f6.params.toList ++ (Rows.OpenSpec.upto Rows.proofClaimsSpec).bare.plain.varTypes Tryz.prog).any (Tryz.prog.mapsRec ·)) = true := by kernel_rfl
theorem k15 : (Rows.proofClaimsUptoRow.ifaces == (Tryz.f6.params.toList ++ (Rows.OpenSpec.upto Rows.proofClaimsSpec).bare.plain.varTypes Tryz.prog).any (Tryz.prog.ifacesRec ·)) = true := by kernel_rfl
theorem k16 : (Rows.proofClaimsUptoRow.mapsOut == Tryz.prog.mapsAmong Tryz.f6.resultTypes.toList) = true := by kernel_rfl
theorem k17 : (Rows.proofClaimsUptoRow.loops == (Tryz.f6.params.toList ++ (Rows.OpenSpec.upto Rows.proofClaimsSpec).bare.plain.varTypes Tryz.prog).any (Tryz.prog.loopsFrom ·)) = true := by kernel_rfl
theorem k17b : (Rows.proofClaimsUptoRow.wideKeys == (Tryz.f6.params.toList ++ (Rows.OpenSpec.upto Rows.proofClaimsSpec).bare.plain.varTypes Tryz.prog ++ Tryz.f6.resultTypes.toList).any (Tryz.prog.wideKeysFrom ·)) = true := by kernel_rfl
theorem k18 : (Rows.OpenSpec.upto Rows.proofClaimsSpec).bare.vars.all (Tryz.prog.varReadable ·) = true := by kernel_rfl
theorem k19 : Tryz.f6.resultTypes.all (fun t => Tryz.prog.readableRec t && decide (t < Tryz.prog.types.size)) = true := by kernel_rfl
theorem k20 : (Rows.proofClaimsUptoRow.ifacesOut == Tryz.f6.resultTypes.toList.any (Tryz.prog.ifacesRec ·)) = true := by kernel_rfl
theorem k21 : (Rows.proofClaimsUptoRow.loopsOut == Tryz.f6.resultTypes.toList.any (Tryz.prog.loopsFrom ·)) = true := by kernel_rfl
theorem k23 : Rows.proofClaimsUptoRow.shortTexts.isNone = true := by kernel_rfl
theorem k25 : (Rows.proofClaimsUptoRow.kinds == (if Rows.proofClaimsUptoRow.domain.isEmpty then [] else Tryz.f6.params.toList.map fun t => match Tryz.prog.underlying t with | some (.int k) => some k | _ => none)) = true := by kernel_rfl
theorem k26 : (Rows.proofClaimsUptoRow.pinned == Rows.proofClaimsUptoRow.pinnedBy) = true := by kernel_rfl
theorem k27 : (Rows.proofClaimsUptoRow.veiled == (Tryz.f6.params.toList ++ (Rows.OpenSpec.upto Rows.proofClaimsSpec).bare.plain.varTypes Tryz.prog ++ Tryz.f6.resultTypes.toList).any (Tryz.prog.veiledRec ·)) = true := by kernel_rfl
theorem k28 : Rows.proofClaimsUptoRow.veiledFits Tryz.prog Tryz.f6.params.toList (Tryz.f6.params.toList ++ (Rows.OpenSpec.upto Rows.proofClaimsSpec).bare.plain.varTypes Tryz.prog ++ Tryz.f6.resultTypes.toList) = true := by kernel_rfl
theorem facts : joinedFacts Tryz.prog 6 Tryz.f6 (Rows.OpenSpec.upto Rows.proofClaimsSpec).bare Rows.proofClaimsUptoRow = true :=
  over.joined Tryz.prog 6 Tryz.f6 (Rows.OpenSpec.upto Rows.proofClaimsSpec).bare Rows.proofClaimsUptoRow k1 over.laidOut over.rowed k4 k5 k6 over.stops0 k8 over.knobs0 k10 k11 k12 k13 k14 k15 k16 k17 k17b k18 k19 k20 k21 over.keys k23 over.heard over.enters over.lifts over.makes k25 k26 k27 k28
theorem inst : Tryz.f6.isInstance Tryz.pinned.checked.prog Rows.proofClaimsUptoRow.origin Rows.proofClaimsUptoRow.targs := of_decide_eq_true (by kernel_rfl)
theorem wrap : Tryz.f6.isWrapper Tryz.pinned.checked.prog Rows.proofClaimsUptoRow.wrapper Rows.proofClaimsUptoRow.mainSum := by
  unfold Func.isWrapper; first | (rw [if_pos (by decide +kernel)]; kernel_rfl) | (rw [if_neg (by decide +kernel)]; exact ⟨rfl, rfl⟩)
end Go.Proofs.YtcedalofcekdkaaGreatDoor.proofClaims
