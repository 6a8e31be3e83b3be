/- What the row of SessionOldest says of the program, one closed fact at a time. -/
import Derived.Test.YtfahiennamklgaaGreatDoorRows
import Derived.Test.YtfahiennamklgaaGreatDoorClos
import Derived.Test.YtfahiennamklgaaGreatDoorBody
import Derived.ProofKit
import Derived.ClosedOfChecked
import Derived.JoinedOf

set_option linter.all false
set_option linter.unusedVariables false
set_option linter.unusedSimpArgs false
set_option linter.deprecated false

/- The row's closed facts, one by one. -/
namespace Go.Proofs.YtfahiennamklgaaGreatDoor
open Go
set_option maxRecDepth 100000
def clL : List Nat := [3, 4, 5, 6, 10, 19, 36, 67, 140, 290, 135, 141, 142, 12, 11, 13, 14, 20, 15, 21, 38, 76, 77, 37, 68, 69, 143, 70, 144, 145, 71, 146, 147, 291, 72, 73, 74, 75, 7, 8, 16, 22, 9, 17, 23, 25, 43, 94, 182, 323, 324, 183, 185, 184, 325, 326, 327, 328, 456, 457, 188, 329, 95, 186, 187, 189, 330, 458, 524, 190, 191, 331, 192, 24, 39, 78, 148, 149, 292, 150, 151, 100, 247, 248, 249, 363, 335, 152, 79, 80, 81, 55, 122, 40, 82, 153, 154, 41, 83, 155, 84, 156, 157, 293, 294, 419, 420, 421, 422, 423, 475, 538, 295, 85, 158, 160, 159, 161, 42, 86, 162, 168, 169, 307, 389, 343, 342, 435, 344, 308, 58, 123, 163, 296, 424, 511, 297, 425, 361, 474, 476, 509, 426, 427, 298, 165, 300, 164, 299, 87, 166, 301, 428, 317, 444, 173, 302, 88, 167, 303, 304, 429, 512, 513, 551, 595, 305, 306, 430, 434, 431, 433, 432, 514, 516, 515, 89, 115, 171, 170, 90, 172, 174, 309, 437, 436, 517, 552, 553, 596, 554, 555, 597, 598, 607, 556, 557, 558, 559, 310, 312, 313, 311, 92, 91, 175, 176, 93, 178, 125, 280, 413, 315, 439, 314, 438, 518, 121, 271, 392, 398, 393, 502, 394, 395, 503, 504, 550, 396, 397, 399, 400, 316, 440, 470, 441, 442, 443, 321, 319, 445, 318, 177, 179, 320, 446, 447, 519, 448, 449, 520, 521, 560, 450, 451, 452, 453, 180, 181, 322, 454, 522, 523, 455, 18, 26, 44, 96, 61, 124, 272, 401, 402, 403, 273, 404, 405, 386, 499, 500, 406, 408, 506, 407, 505, 274, 409, 507, 275, 276, 277, 278, 410, 279, 411, 376, 489, 547, 586, 587, 603, 588, 589, 604, 605, 609, 590, 591, 592, 593, 412, 193, 332, 46, 101, 102, 250, 364, 104, 477, 539, 579, 478, 479, 251, 252, 103, 253, 254, 105, 333, 194, 334, 459, 460, 525, 561, 195, 196, 336, 462, 461, 463, 526, 527, 562, 563, 564, 565, 566, 567, 465, 529, 530, 531, 532, 466, 464, 528, 568, 569, 599, 570, 571, 600, 601, 608, 572, 573, 574, 575, 45, 97, 64, 197, 337, 129, 130, 338, 467, 534, 533, 576, 469, 535, 351, 354, 98, 200, 359, 471, 536, 577, 213, 228, 65, 128, 131, 132, 285, 133, 134, 286, 415, 510, 416, 287, 417, 288, 418, 289, 198, 339, 468, 340, 341, 199, 99, 201, 204, 348, 349, 283, 414, 508, 362, 345, 202, 346, 203, 347, 205, 206, 350, 352, 353, 355, 284, 360, 472, 537, 358, 578, 602, 473, 215, 230, 207, 208, 209, 210, 211, 212, 214, 216, 217, 218, 219, 220, 244, 221, 222, 246, 223, 224, 225, 356, 357, 226, 227, 229, 231, 232, 233, 234, 235, 236, 237, 238, 239, 240, 241, 242, 243, 245, 27, 33, 28, 47, 30, 48, 29, 51, 52, 49, 106, 255, 107, 256, 257, 365, 366, 112, 480, 540, 580, 581, 582, 493, 583, 375, 484, 543, 491, 380, 485, 490, 544, 266, 388, 501, 549, 594, 606, 610, 611, 614, 615, 612, 613, 616, 617, 618, 619, 377, 492, 486, 545, 585, 487, 494, 548, 546, 383, 488, 384, 495, 496, 497, 498, 541, 584, 258, 368, 369, 367, 370, 108, 259, 371, 372, 481, 374, 483, 542, 482, 261, 260, 373, 50, 109, 110, 262, 263, 378, 379, 381, 382, 385, 111, 265, 387, 264, 113, 114, 267, 31, 53, 117, 116, 268, 118, 269, 119, 120, 270, 390, 391, 32, 54, 57, 59, 60, 56, 34, 62, 126, 281, 63, 127, 282, 35, 66, 136, 137, 138, 139]
theorem fc_fu : (Tryz.prog.funcs.toList.map fun g => (Tryz.prog.leadsTo g).length + 1).sum = 1934 := by kernel_rfl
theorem fc_cv : cv Tryz.prog (1 + 1934) [3] 0 [] = clL := by kernel_rfl
theorem fc_cl : Tryz.prog.closure 3 = clL := closure_of Tryz.prog 3 1934 clL fc_fu fc_cv
theorem fc_vars : (Rows.sessionOldestRow.named == Tryz.prog.varsOf clL) = true := by kernel_rfl
theorem fc_inpl : (Rows.sessionOldestRow.inPlace == Tryz.prog.inPlaceOf clL) = true := by kernel_rfl
theorem fc_unf : (clL.any fun g => (Tryz.prog.funcs[g]?).any fun fn => match fn.body with | some c => c.unfollowed | none => entryCalls fn) = true := by kernel_rfl
theorem unf_true : Tryz.prog.unfollowed 3 = true := by
  unfold Program.unfollowed
  rw [fc_cl]
  exact fc_unf
theorem rec_true : Tryz.prog.recurses 3 = true := by
  unfold Program.recurses
  rw [unf_true]
  rfl
theorem fj_9 : (Rows.sessionOldestRow.inPlace == Tryz.prog.inPlace 3) = true := by
  have h : Tryz.prog.inPlace 3 = Tryz.prog.inPlaceOf (Tryz.prog.closure 3) := rfl
  rw [h, fc_cl]
  exact fc_inpl
theorem fj_10 : (Rows.sessionOldestRow.unfollowed == Tryz.prog.unfollowed 3) = true := by rw [unf_true]; rfl
theorem fj_11 : (Rows.sessionOldestRow.recurses == Tryz.prog.recurses 3) = true := by rw [rec_true]; rfl
theorem fj_12 : (Rows.sessionOldestRow.named == Tryz.prog.varsNamed 3) = true := by
  have h : Tryz.prog.varsNamed 3 = Tryz.prog.varsOf (Tryz.prog.closure 3) := rfl
  rw [h, fc_cl]
  exact fc_vars
theorem fj_0 : (Rows.sessionOldestRow.wf (OpenSpec.ofChange Rows.sessionOldestSpec)) = true := by kernel_rfl
theorem fj_3 : (Tryz.f3.params.all (Tryz.prog.readableRec ·)) = true := by kernel_rfl
theorem fj_4 : (namedTie Tryz.prog Rows.sessionOldestRow.named Rows.sessionOldestSpec.vars) = true := by kernel_rfl
theorem fj_5 : ((Rows.sessionOldestRow.stops == [])) = true := by kernel_rfl
theorem fj_6 : ((Tryz.prog.stops == [])) = true := by kernel_rfl
theorem fj_7 : ((Rows.sessionOldestRow.knobs == [])) = true := by kernel_rfl
theorem fj_8 : ((Tryz.prog.stopKnobs == [])) = true := by kernel_rfl
theorem fj_13 : ((Rows.sessionOldestRow.maps == (Tryz.f3.params.toList ++ Rows.sessionOldestSpec.plain.varTypes Tryz.prog).any (Tryz.prog.mapsRec ·))) = true := by kernel_rfl
theorem fj_14 : ((Rows.sessionOldestRow.ifaces == (Tryz.f3.params.toList ++ Rows.sessionOldestSpec.plain.varTypes Tryz.prog).any (Tryz.prog.ifacesRec ·))) = true := by kernel_rfl
theorem fj_15 : ((Rows.sessionOldestRow.mapsOut == Tryz.prog.mapsAmong Tryz.f3.resultTypes.toList)) = true := by kernel_rfl
theorem fj_16 : ((Rows.sessionOldestRow.loops == (Tryz.f3.params.toList ++ Rows.sessionOldestSpec.plain.varTypes Tryz.prog).any (Tryz.prog.loopsFrom ·))) = true := by kernel_rfl
theorem fj_17 : ((Rows.sessionOldestRow.wideKeys == (Tryz.f3.params.toList ++ Rows.sessionOldestSpec.plain.varTypes Tryz.prog ++ Tryz.f3.resultTypes.toList).any (Tryz.prog.wideKeysFrom ·))) = true := by kernel_rfl
theorem fj_18 : (Rows.sessionOldestSpec.vars.all (Tryz.prog.varReadable ·)) = true := by kernel_rfl
theorem fj_19 : (Tryz.f3.resultTypes.all (fun t => Tryz.prog.readableRec t && decide (t < Tryz.prog.types.size))) = true := by kernel_rfl
theorem fj_20 : ((Rows.sessionOldestRow.ifacesOut == Tryz.f3.resultTypes.toList.any (Tryz.prog.ifacesRec ·))) = true := by kernel_rfl
theorem fj_21 : ((Rows.sessionOldestRow.loopsOut == Tryz.f3.resultTypes.toList.any (Tryz.prog.loopsFrom ·))) = true := by kernel_rfl
theorem fj_22 : ((Rows.sessionOldestRow.plainKeys == Tryz.prog.plainKeys)) = true := by kernel_rfl
theorem fj_23 : (Rows.sessionOldestRow.shortTexts.isNone) = true := by kernel_rfl
theorem fj_24 : (Tryz.prog.stopsHeard) = true := by kernel_rfl
theorem fj_25 : (Tryz.prog.mayEnter) = true := by kernel_rfl
theorem fj_26 : ((Rows.sessionOldestRow.lifted == Tryz.prog.liftsFinal)) = true := by kernel_rfl
theorem fj_27 : ((Tryz.prog.make == some Rows.sessionOldestRow.make)) = true := by kernel_rfl
theorem fj_28 : ((Rows.sessionOldestRow.kinds == (if Rows.sessionOldestRow.domain.isEmpty then [] else Tryz.f3.params.toList.map fun t => match Tryz.prog.underlying t with | some (.int k) => some k | _ => none))) = true := by kernel_rfl
theorem fj_29 : ((Rows.sessionOldestRow.pinned == Rows.sessionOldestRow.pinnedBy)) = true := by kernel_rfl
theorem fj_30 : ((Rows.sessionOldestRow.veiled == (Tryz.f3.params.toList ++ Rows.sessionOldestSpec.plain.varTypes Tryz.prog ++ Tryz.f3.resultTypes.toList).any (Tryz.prog.veiledRec ·))) = true := by kernel_rfl
theorem fj_31 : (Rows.sessionOldestRow.veiledFits Tryz.prog Tryz.f3.params.toList (Tryz.f3.params.toList ++ Rows.sessionOldestSpec.plain.varTypes Tryz.prog ++ Tryz.f3.resultTypes.toList)) = true := by kernel_rfl
theorem fx_hty : Tryz.prog.types = Tryz.src.types := by kernel_rfl
theorem fx_rest : (Tryz.prog.globals.all (fun g => decide (g.type < Tryz.prog.types.size)) && Tryz.prog.funcs.all (fun f => f.params.all fun t => decide (t < Tryz.prog.types.size))) = true := by kernel_rfl
theorem fx_spec : ClosedOfChecked.AllSpec Tryz.prog := ClosedOfChecked.allSpec_of (P := Tryz.prog) Tryz.checked.wellFormed fx_hty
theorem fj_1 : laidOutB Tryz.prog = true := ClosedOfChecked.laidOutB_of fx_spec fx_rest
theorem fj_2 : mapsRowed Tryz.prog = true := ClosedOfChecked.mapsRowed_of fx_spec
theorem and_mk {a b : Bool} (ha : a = true) (hb : b = true) : (a && b) = true := by rw [ha, hb]; rfl
theorem joined : joinedFacts Tryz.prog 3 Tryz.f3 Rows.sessionOldestSpec Rows.sessionOldestRow = true :=
  and_mk (and_mk (and_mk (and_mk (and_mk (and_mk (and_mk (and_mk (and_mk (and_mk (and_mk (and_mk (and_mk (and_mk (and_mk (and_mk (and_mk (and_mk (and_mk (and_mk (and_mk (and_mk (and_mk (and_mk (and_mk (and_mk (and_mk (and_mk (and_mk (and_mk (and_mk fj_0 fj_1) fj_2) fj_3) fj_4) fj_5) fj_6) fj_7) fj_8) fj_9) fj_10) fj_11) fj_12) fj_13) fj_14) fj_15) fj_16) fj_17) fj_18) fj_19) fj_20) fj_21) fj_22) fj_23) fj_24) fj_25) fj_26) fj_27) fj_28) fj_29) fj_30) fj_31
end Go.Proofs.YtfahiennamklgaaGreatDoor
