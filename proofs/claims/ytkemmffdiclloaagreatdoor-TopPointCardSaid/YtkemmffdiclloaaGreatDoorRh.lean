import Derived.Test.YtkemmffdiclloaaGreatDoorRg
set_option linter.unusedVariables false
set_option linter.unusedSimpArgs false
/- The closed run's functions, second part (printed by kern2.py). -/
namespace Go.RE
noncomputable section
open Go.RowKit
def af190 : AFn := .code 102 (.seq (.reg [f 2 (.box 0),f 3 (.box 1),s 4 (.mv (.c (.s [])))])
 (.seq (.reg [s 5 (.mv (.c .sn))])
 (.seq (.dreg 0 [.st 0 (s 15 (.fa 2 3)),
  .st 1 (s 16 (.ld1 15)),
  .st 2 (s 17 (.fa 1 3)),
  .st 3 (s 18 (.ld1 17)),
  .st 4 (m 6 16),
  .st 5 (m 7 18)])
 (.seq (.seq (.reg [s 19 (.fa 2 2),s 20 (.ld1 19),s 21 (.len 20),s 22 (.mv (k 0))])
 (.block 0 (.loop (.seq (.reg [s 23 (.bin .lss 22 21)])
 (.seq (.cond 23 .skip (.exit 0))
 (.seq (.block 1 (.seq (.reg [s 24 (.ia 2 20 22),s 25 (.ldn 2 24),f 9 (.alloc [(.s []),(.b false)]),st 2 9 25])
 (.seq (.reg [s 10 (.mv (.c (.s [])))])
 (.seq (.block 2 (.seq (.reg [s 27 (.fa 1 9),s 28 (.ld1 27),m 29 28,sg 30 29 true (.mv 6),sg 31 29 true (.len 30),sg 32 29 true (.bin .gtr 31 (k 0)),s 33 (.pick 29 32 (.c (.b false))),m 26 33])
 (.cond 26 (.dreg 0 [.st 0 (m 34 6),
  .st 1 (s 35 (.ia 1 34 (k 0))),
  .st 2 (s 36 (.ld1 35)),
  .st 4 (m 38 6),
  .st 5 (s 39 (.slc 1 38 (some (k 1)) none none)),
  .ef 3 (c 37 (.call 256 [36])) [] [],
  .st 6 (m 10 37),
  .st 7 (m 6 39)]) (.seq (.reg [s 41 (.fa 1 9),s 42 (.ld1 41),s 43 (.un .not 42),m 44 43,sg 45 44 true (.mv 7),sg 46 44 true (.len 45),sg 47 44 true (.bin .gtr 46 (k 0)),s 48 (.pick 44 47 (.c (.b false))),m 40 48])
 (.cond 40 (.dreg 0 [.st 0 (m 49 7),
  .st 1 (s 50 (.ia 1 49 (k 0))),
  .st 2 (s 51 (.ld1 50)),
  .st 4 (m 53 7),
  .st 5 (s 54 (.slc 1 53 (some (k 1)) none none)),
  .ef 3 (c 52 (.call 257 [51])) [] [],
  .st 6 (m 10 52),
  .st 7 (m 7 54)]) .skip)))))
 (.reg [m 55 5,s 56 (.fa 0 9),s 57 (.ld1 56),s 58 (.bin .add 57 (.c (.s [61]))),m 59 10,s 60 (.bin .add 58 59),f 61 (.bsl 1 1 [(.s [])] [(0,1,60)]),e 62 (.app 1 16 55 61),m 5 62])))))
 (.reg [s 63 (.bin .add 22 (k 1)),m 22 63])))))))
 (.seq (.seq (.reg [s 64 (.fa 0 2),s 65 (.ld1 64),s 66 (.bin .eql 65 (k 15))])
 (.cond 66 (.seq (.reg [s 11 (.mv (.c .sn))])
 (.seq (.seq (.reg [s 67 (.fa 3 3),s 68 (.ld1 67),s 69 (.len 68),s 70 (.mv (k 0))])
 (.block 3 (.loop (.seq (.reg [s 71 (.bin .lss 70 69)])
 (.seq (.cond 71 .skip (.exit 3))
 (.seq (.block 4 (.seq (.reg [s 72 (.ia 2 68 70),s 73 (.ldn 2 72),f 13 (.alloc [(i 0),(i 0)]),st 2 13 73])
 (.dreg 1 [.st 0 (m 74 11),
  .st 1 (s 75 (.iaa 2 1 13 (k 0))),
  .st 2 (s 76 (.ld1 75)),
  .st 4 (s 78 (.iaa 2 1 13 (k 1))),
  .st 5 (s 79 (.ld1 78)),
  .ef 3 (c 77 (.call 257 [76])) [] [s 79 (.ld1 78)],
  .ef 6 (c 80 (.call 257 [79])) [] [],
  .fl 7 (f 81 (.bsl 1 2 [(.s []),(.s [])] [(0,1,77),(1,1,80)])) 0,
  .ef 8 (e 82 (.app 1 16 74 81)) [0] [],
  .st 9 (m 11 82)])))
 (.reg [s 83 (.bin .add 70 (k 1)),m 70 83])))))))
 (.reg [m 84 5,m 85 11,c 86 (.call 258 [85,(.c (.s [44]))]),s 87 (.bin .add (.c (.s [112,61])) 86),f 88 (.bsl 1 1 [(.s [])] [(0,1,87)]),e 89 (.app 1 16 84 88),m 5 89]))) .skip))
 (.seq (.reg [s 90 (.fa 1 2),s 91 (.ld1 90),s 92 (.bin .add (.c (.s [47])) 91),m 14 92])
 (.seq (.seq (.reg [m 93 5,s 94 (.len 93),s 95 (.bin .gtr 94 (k 0))])
 (.cond 95 (.reg [m 96 14,m 97 5,c 98 (.call 258 [97,(.c (.s [38]))]),s 99 (.bin .add (.c (.s [63])) 98),s 100 (.bin .add 96 99),m 14 100]) .skip))
 (.seq (.reg [m 101 14,m 4 101])
 .ret)))))))) [.t 4]
def af191 : AFn := .code 46 (.seq (.reg [s 2 (.mv (.c .sn)),s 3 (.mv (k 0))])
 (.seq (.block 0 (.seq (.reg [m 8 0,s 9 (.len 8),s 10 (.bin .gtr 9 (k 500)),m 7 10])
 (.cond 7 (.seq (.reg [s 2 (.mv (.c .sn)),s 3 (.mv (k 11))])
 .ret) (.seq (.reg [m 12 0,s 13 (.len 12),s 14 (.bin .eql 13 (k 0)),m 15 14,sg 16 15 false (.mv 0),cg 17 15 false (.call 259 [16,(.c (.f (.func 260) [] []))]),s 18 (.pick 15 (.c (.b true)) 17),m 11 18])
 (.cond 11 (.seq (.reg [s 2 (.mv (.c .sn)),s 3 (.mv (k 1))])
 .ret) .skip)))))
 (.seq (.reg [s 4 (.mv (.c .sn))])
 (.seq (.seq (.reg [m 19 0,s 20 (.len 19),s 21 (.mv (k 0))])
 (.block 1 (.loop (.seq (.reg [s 22 (.bin .lss 21 20)])
 (.seq (.cond 22 .skip (.exit 1))
 (.seq (.block 2 (.seq (.reg [s 23 (.ia 5 19 21),s 24 (.ldn 5 23),f 6 (.alloc [(i 0),(i 0),(i 0),(i 0),(i 0)]),st 5 6 24])
 (.seq (.reg [m 25 4,s 26 (.fa 0 6),s 27 (.ld1 26),s 28 (.cvi .u8 27),f 29 (.bsl 1 1 [(.i .u8 0)] [(0,1,28)]),e 30 (.app 1 1 25 29),m 4 30])
 (.seq (.reg [s 31 (.fa 0 6),s 32 (.ld1 31),s 33 (.bin .eql 32 (k 1))])
 (.cond 33 (.reg [m 34 4,s 35 (.fa 1 6),s 36 (.ldn 4 35),c 37 (.call 262 [34,36]),m 4 37]) (.reg [m 38 4,s 39 (.fa 1 6),s 40 (.fa 0 39),s 41 (.ld1 40),s 42 (.cvi .u64 41),c 43 (.call 115 [38,42,(k 4)]),m 4 43]))))))
 (.reg [s 44 (.bin .add 21 (k 1)),m 21 44])))))))
 (.seq (.reg [m 45 4,m 2 45,s 3 (.mv (k 0))])
 .ret))))) [.t 2,.t 3]
def af192 : AFn := .code 38 (.seq (.reg [f 2 (.box 0),f 3 (.box 1),s 4 (.mv (.c (.b false)))])
 (.seq (.reg [s 5 (.fa 0 2),s 6 (.ld1 5),s 7 (.fa 0 3),s 8 (.ld1 7),s 9 (.bin .eql 6 8),m 10 9,sg 11 10 true (.fa 1 2),sg 12 10 true (.ld1 11),sg 13 10 true (.fa 1 3),sg 14 10 true (.ld1 13),cg 15 10 true (.call 263 [12,14]),s 16 (.pick 10 15 (.c (.b false))),m 17 16,sg 18 17 true (.fa 2 2),sg 19 17 true (.ld1 18),sg 20 17 true (.fa 2 3),sg 21 17 true (.ld1 20),cg 22 17 true (.call 264 [19,21]),s 23 (.pick 17 22 (.c (.b false))),m 24 23,sg 25 24 true (.fa 3 2),sg 26 24 true (.ld1 25),sg 27 24 true (.fa 3 3),sg 28 24 true (.ld1 27),cg 29 24 true (.call 265 [26,28]),s 30 (.pick 24 29 (.c (.b false))),m 31 30,sg 32 31 true (.fa 4 2),sg 33 31 true (.ld1 32),sg 34 31 true (.fa 4 3),sg 35 31 true (.ld1 34),cg 36 31 true (.call 266 [33,35]),s 37 (.pick 31 36 (.c (.b false))),m 4 37])
 .ret)) [.t 4]
def af203 : AFn := .code 65 (.seq (.reg [f 3 (.box 1),s 4 (.mv (k 0)),s 5 (.mv (.c .sn))])
 (.seq (.dreg 1 [.st 0 (s 12 (.fa 1 3)),
  .st 1 (s 13 (.ld1 12)),
  .st 2 (s 14 (.ia 1 13 (k 0))),
  .st 3 (s 15 (.ld1 14)),
  .st 4 (s 16 (.fa 1 3)),
  .st 5 (s 17 (.ld1 16)),
  .st 6 (s 18 (.ia 1 17 (k 1))),
  .st 7 (s 19 (.ld1 18)),
  .st 8 (s 20 (.fa 1 3)),
  .st 9 (s 21 (.ld1 20)),
  .st 10 (s 22 (.ia 1 21 (k 2))),
  .st 11 (s 23 (.ld1 22)),
  .st 12 (s 24 (.fa 1 3)),
  .st 13 (s 25 (.ld1 24)),
  .st 14 (s 26 (.ia 1 25 (k 3))),
  .st 15 (s 27 (.ld1 26)),
  .st 16 (s 28 (.build [(i 0),(i 0),(i 0),(i 0)] [(0,1,15),(1,1,19),(2,1,23),(3,1,27)])),
  .fl 17 (f 6 (.alloc [(i 0),(i 0),(i 0),(i 0)])) 0,
  .ef 18 (st 4 6 28) [0] []])
 (.seq (.seq (.reg [s 29 (.ldn 4 6),c 30 (.call 278 [29]),m 7 30])
 (.seq (.reg [m 31 7,s 32 (.bin .neq 31 (k 0))])
 (.cond 32 (.seq (.reg [m 33 7,m 4 33,s 5 (.mv (.c .sn))])
 .ret) .skip)))
 (.seq (.seq (.dreg 0 [.st 0 (m 35 0),
  .st 1 (s 36 (.nilc 35)),
  .st 2 (s 37 (.fa 2 36)),
  .st 3 (s 38 (.ld1 37)),
  .st 4 (s 39 (.ldn 4 6)),
  .ef 5 (c 40 (.call 279 [38,39])) [] [],
  .st 6 (m 34 40),
  .st 7 (s 41 (.ext 34 0)),
  .st 8 (s 42 (.ext 34 1)),
  .st 9 (m 8 41),
  .st 10 (m 9 42)])
 (.seq (.reg [m 43 9])
 (.cond 43 (.seq (.reg [m 44 8,s 4 (.mv (k 0)),m 5 44])
 .ret) .skip)))
 (.seq (.dreg 0 [.st 0 (s 46 (.ldn 4 6)),
  .st 1 (m 47 0),
  .st 2 (s 48 (.nilc 47)),
  .st 3 (s 49 (.fa 1 48)),
  .st 4 (s 50 (.ld1 49)),
  .ef 5 (c 51 (.call 280 [46,50])) [] [],
  .st 6 (m 45 51),
  .st 7 (s 52 (.ext 45 0)),
  .st 8 (s 53 (.ext 45 1)),
  .st 9 (m 10 52),
  .st 10 (m 11 53)])
 (.seq (.seq (.reg [m 54 11,s 55 (.bin .neq 54 (k 0))])
 (.cond 55 (.seq (.reg [m 56 11,m 4 56,s 5 (.mv (.c .sn))])
 .ret) .skip))
 (.seq (.dreg 0 [.st 0 (m 57 0),
  .st 1 (s 58 (.nilc 57)),
  .st 2 (s 59 (.fa 2 58)),
  .st 3 (s 60 (.ld1 59)),
  .st 4 (s 61 (.ldn 4 6)),
  .st 5 (m 62 10),
  .ef 6 (c 63 (.call 281 [60,61,62])) [] []])
 (.seq (.reg [m 64 10,s 4 (.mv (k 0)),m 5 64])
 .ret)))))))) [.t 4,.t 5]
def af208 : AFn := .code 106 (.seq (.reg [f 3 (.box 1),s 4 (.mv (k 0)),s 5 (.mv (.c .sn))])
 (.seq (.reg [m 16 0,s 17 (.nilc 16),s 18 (.fa 0 17),s 19 (.ld1 18),c 20 (.call 100 [19]),m 6 20])
 (.seq (.seq (.dreg 0 [.st 0 (m 21 0),
  .st 1 (s 22 (.nilc 21)),
  .st 2 (s 23 (.fa 0 22)),
  .st 3 (s 24 (.ld1 23)),
  .st 4 (s 25 (.fa 4 3)),
  .st 5 (s 26 (.ld1 25)),
  .ef 6 (c 27 (.call 288 [24,26])) [] [],
  .st 7 (m 7 27)])
 (.seq (.reg [m 28 7,s 29 (.bin .neq 28 (k 0))])
 (.cond 29 (.seq (.reg [m 30 7,m 4 30,s 5 (.mv (.c .sn))])
 .ret) .skip)))
 (.seq (.seq (.reg [s 31 (.fa 4 3),s 32 (.ld1 31),s 33 (.len 32),s 34 (.mv (k 0))])
 (.block 0 (.loop (.seq (.reg [s 35 (.bin .lss 34 33)])
 (.seq (.cond 35 .skip (.exit 0))
 (.seq (.block 1 (.seq (.reg [s 36 (.ia 5 32 34),s 37 (.ldn 5 36),f 9 (.alloc [(i 0),(i 0),(i 0),(i 0),(i 0)]),st 5 9 37])
 (.seq (.seq (.reg [m 39 6,s 40 (.fa 1 9),s 41 (.fa 0 40),s 42 (.ld1 41),c 43 (.call 289 [39,42]),m 38 43,s 44 (.ext 38 0),s 45 (.ext 38 1),m 10 44,m 11 45])
 (.seq (.reg [m 46 11])
 (.cond 46 (.dreg 0 [.st 0 (m 47 0),
  .st 1 (s 48 (.nilc 47)),
  .st 2 (s 49 (.fa 2 48)),
  .st 3 (s 50 (.ld1 49)),
  .st 4 (m 51 6),
  .st 5 (m 52 10),
  .st 6 (s 53 (.ia 4 51 52)),
  .st 7 (s 54 (.fa 1 53)),
  .st 8 (s 55 (.ld1 54)),
  .st 9 (m 56 6),
  .st 10 (m 57 10),
  .st 11 (s 58 (.ia 4 56 57)),
  .st 12 (s 59 (.fa 2 58)),
  .st 13 (s 60 (.ld1 59)),
  .ef 14 (c 61 (.call 290 [50,55,60])) [] []]) .skip)))
 (.dreg 0 [.st 0 (m 62 0),
  .st 1 (s 63 (.nilc 62)),
  .st 2 (s 64 (.fa 1 63)),
  .st 3 (s 65 (.ld1 64)),
  .st 4 (s 66 (.fa 1 9)),
  .st 5 (s 67 (.fa 0 66)),
  .st 6 (s 68 (.ld1 67)),
  .ef 7 (c 69 (.call 241 [65,68])) [] []]))))
 (.reg [s 70 (.bin .add 34 (k 1)),m 34 70])))))))
 (.seq (.seq (.reg [s 71 (.fa 4 3),s 72 (.ld1 71),s 73 (.len 72),s 74 (.mv (k 0))])
 (.block 2 (.loop (.seq (.reg [s 75 (.bin .lss 74 73)])
 (.seq (.cond 75 .skip (.exit 2))
 (.seq (.block 3 (.seq (.reg [s 76 (.ia 5 72 74),s 77 (.ldn 5 76),f 13 (.alloc [(i 0),(i 0),(i 0),(i 0),(i 0)]),st 5 13 77])
 (.seq (.dreg 1 [.st 0 (m 79 0),
  .st 1 (s 80 (.nilc 79)),
  .st 2 (s 81 (.fa 0 80)),
  .st 3 (s 82 (.ld1 81)),
  .st 4 (s 83 (.fa 1 13)),
  .st 5 (s 84 (.fa 0 83)),
  .st 6 (s 85 (.ld1 84)),
  .ef 7 (c 86 (.call 291 [82,85])) [] [],
  .st 8 (m 78 86),
  .st 9 (s 87 (.ext 78 0)),
  .st 10 (s 88 (.ext 78 1)),
  .fl 11 (f 14 (.alloc [(i 0),(i 0),(i 0),(i 0)])) 0,
  .ef 12 (st 4 14 87) [0] [],
  .st 13 (m 15 88)])
 (.seq (.reg [m 89 15])
 (.cond 89 (.seq (.dreg 0 [.st 0 (m 90 0),
  .st 1 (s 91 (.nilc 90)),
  .st 2 (s 92 (.fa 2 91)),
  .st 3 (s 93 (.ld1 92)),
  .st 4 (s 94 (.fa 1 14)),
  .st 5 (s 95 (.ld1 94)),
  .st 6 (s 96 (.fa 2 14)),
  .st 7 (s 97 (.ld1 96)),
  .ef 8 (c 98 (.call 290 [93,95,97])) [] []])
 (.dreg 0 [.st 0 (m 99 0),
  .st 1 (s 100 (.nilc 99)),
  .st 2 (s 101 (.fa 1 100)),
  .st 3 (s 102 (.ld1 101)),
  .st 4 (s 103 (.ldn 4 14)),
  .ef 5 (c 104 (.call 172 [102,103])) [] []])) .skip)))))
 (.reg [s 105 (.bin .add 74 (k 1)),m 74 105])))))))
 (.seq (.reg [s 4 (.mv (k 0)),s 5 (.mv (.c .sn))])
 .ret)))))) [.t 4,.t 5]
def af216 : AFn := .code 69 (.seq (.reg [s 2 (.mv (.c .sn))])
 (.seq (.reg [s 3 (.mv (.c .sn))])
 (.seq (.seq (.reg [s 4 (.mv (k 0))])
 (.block 0 (.loop (.seq (.seq (.reg [m 8 4,m 9 0,s 10 (.len 9),s 11 (.bin .lss 8 10)])
 (.cond 11 .skip (.exit 0)))
 (.seq (.block 1 (.seq (.reg [m 14 3,s 15 (.len 14),s 5 (.mv (k 0)),m 6 15])
 (.seq (.block 2 (.loop (.seq (.seq (.reg [m 16 5,m 17 6,s 18 (.bin .lss 16 17)])
 (.cond 18 .skip (.exit 2)))
 (.block 3 (.seq (.reg [m 19 5,m 20 6,s 21 (.bin .add 19 20),s 22 (.bin .quo 21 (k 2)),m 7 22])
 (.seq (.dreg 0 [.st 0 (m 23 3),
  .st 1 (m 24 7),
  .st 2 (s 25 (.ia 1 23 24)),
  .st 3 (s 26 (.ld1 25)),
  .st 4 (m 27 0),
  .st 5 (m 28 4),
  .st 6 (s 29 (.ia 1 27 28)),
  .st 7 (s 30 (.ld1 29)),
  .st 8 (s 31 (.bin .lss 26 30))])
 (.cond 31 (.reg [m 32 7,s 33 (.bin .add 32 (k 1)),m 5 33]) (.reg [m 34 7,m 6 34]))))))))
 (.seq (.seq (.dreg 0 [.st 0 (m 35 5),
  .st 1 (m 36 3),
  .st 2 (s 37 (.len 36)),
  .st 3 (s 38 (.bin .lss 35 37)),
  .st 4 (m 39 38),
  .st 5 (sg 40 39 true (.mv 3)),
  .st 6 (sg 41 39 true (.mv 5)),
  .st 7 (sg 42 39 true (.ia 1 40 41)),
  .st 8 (sg 43 39 true (.ld1 42)),
  .st 9 (sg 44 39 true (.mv 0)),
  .st 10 (sg 45 39 true (.mv 4)),
  .st 11 (sg 46 39 true (.ia 1 44 45)),
  .st 12 (sg 47 39 true (.ld1 46)),
  .st 13 (sg 48 39 true (.bin .eql 43 47)),
  .st 14 (s 49 (.pick 39 48 (.c (.b false))))])
 (.cond 49 (.exit 1) .skip))
 (.seq (.reg [m 50 3,f 51 (.bsl 1 1 [(.i .u64 0)] [(0,1,(.c (.i .u64 0)))]),e 52 (.app 1 8 50 51),m 3 52])
 (.seq (.dreg 0 [.st 0 (m 53 3),
  .st 1 (m 54 5),
  .st 2 (s 55 (.bin .add 54 (k 1))),
  .st 3 (s 56 (.slc 1 53 (some 55) none none)),
  .st 4 (m 57 3),
  .st 5 (m 58 5),
  .st 6 (s 59 (.slc 1 57 (some 58) none none)),
  .ef 7 (e 60 (.cpy 1 56 59)) [] []])
 (.reg [m 61 3,m 62 5,m 63 0,m 64 4,s 65 (.ia 1 63 64),s 66 (.ld1 65),s 67 (.ia 1 61 62),st 1 67 66])))))))
 (.reg [m 12 4,s 13 (.bin .add 12 (k 1)),m 4 13]))))))
 (.seq (.reg [m 68 3,m 2 68])
 .ret)))) [.t 2]
def af217 : AFn := .code 10 (.seq (.reg [f 1 (.box 0),s 2 (.mv (k 0))])
 (.seq (.block 0 (.seq (.reg [s 4 (.ldn 4 1),c 5 (.call 219 [4]),s 6 (.un .not 5),m 3 6])
 (.cond 3 (.seq (.reg [s 2 (.mv (k 1))])
 .ret) (.seq (.reg [s 8 (.ldn 4 1),c 9 (.call 294 [8]),m 7 9])
 (.cond 7 (.seq (.reg [s 2 (.mv (k 14))])
 .ret) .skip)))))
 (.seq (.reg [s 2 (.mv (k 0))])
 .ret))) [.t 2]
def af218 : AFn := .code 190 (.seq (.reg [f 3 (.box 0),f 4 (.box 1),f 5 (.box 2),s 6 (.mv (.c (.b false)))])
 (.seq (.seq (.reg [s 20 (.ldn 3 3),c 21 (.call 107 [20]),s 22 (.un .not 21),m 23 22,sg 24 23 false (.iaa 2 1 4 (k 0)),sg 25 23 false (.ld1 24),sg 26 23 false (.iaa 2 1 4 (k 1)),sg 27 23 false (.ld1 26),cg 28 23 false (.call 295 [25,27]),s 29 (.pick 23 (.c (.b true)) 28),m 30 29,sg 31 30 false (.iaa 2 1 5 (k 0)),sg 32 30 false (.ld1 31),sg 33 30 false (.iaa 2 1 5 (k 1)),sg 34 30 false (.ld1 33),cg 35 30 false (.call 295 [32,34]),s 36 (.pick 30 (.c (.b true)) 35),m 37 36,sg 38 37 false (.iaa 2 1 5 (k 0)),sg 39 37 false (.ld1 38),sg 40 37 false (.iaa 2 1 4 (k 0)),sg 41 37 false (.ld1 40),sg 42 37 false (.bin .lss 39 41),s 43 (.pick 37 (.c (.b true)) 42),m 44 43,sg 45 44 false (.iaa 2 1 5 (k 1)),sg 46 44 false (.ld1 45),sg 47 44 false (.iaa 2 1 4 (k 1)),sg 48 44 false (.ld1 47),sg 49 44 false (.bin .lss 46 48),s 50 (.pick 44 (.c (.b true)) 49)])
 (.cond 50 (.seq (.reg [s 6 (.mv (.c (.b false)))])
 .ret) .skip))
 (.seq (.reg [s 51 (.fa 1 3),s 52 (.ldn 2 51),s 53 (.fa 0 3),s 54 (.ld1 53),c 55 (.call 150 [52,54]),m 7 55])
 (.seq (.reg [s 56 (.iaa 2 1 4 (k 0)),s 57 (.ld1 56),s 58 (.bin .mul (k 3) 57),s 59 (.iaa 2 1 4 (k 1)),s 60 (.ld1 59),s 61 (.bin .mul (k 3) 60),s 62 (.build [(i 0),(i 0)] [(0,1,58),(1,1,61)]),s 63 (.iaa 2 1 5 (k 0)),s 64 (.ld1 63),s 65 (.bin .mul (k 3) 64),s 66 (.iaa 2 1 4 (k 1)),s 67 (.ld1 66),s 68 (.bin .mul (k 3) 67),s 69 (.build [(i 0),(i 0)] [(0,1,65),(1,1,68)]),s 70 (.iaa 2 1 5 (k 0)),s 71 (.ld1 70),s 72 (.bin .mul (k 3) 71),s 73 (.iaa 2 1 5 (k 1)),s 74 (.ld1 73),s 75 (.bin .mul (k 3) 74),s 76 (.build [(i 0),(i 0)] [(0,1,72),(1,1,75)]),s 77 (.iaa 2 1 4 (k 0)),s 78 (.ld1 77),s 79 (.bin .mul (k 3) 78),s 80 (.iaa 2 1 5 (k 1)),s 81 (.ld1 80),s 82 (.bin .mul (k 3) 81),s 83 (.build [(i 0),(i 0)] [(0,1,79),(1,1,82)]),s 84 (.build [(i 0),(i 0),(i 0),(i 0),(i 0),(i 0),(i 0),(i 0)] [(0,2,62),(2,2,69),(4,2,76),(6,2,83)]),f 8 (.alloc [(i 0),(i 0),(i 0),(i 0),(i 0),(i 0),(i 0),(i 0)]),st 8 8 84])
 (.seq (.seq (.reg [s 9 (.mv (k 0))])
 (.block 0 (.loop (.seq (.seq (.reg [m 85 9,s 86 (.bin .lss 85 (k 2))])
 (.cond 86 .skip (.exit 0)))
 (.seq (.block 1 (.seq (.dreg 0 [.st 0 (m 89 7),
  .st 1 (m 90 9),
  .st 2 (s 91 (.ia 2 89 (k 0))),
  .st 3 (s 92 (.iaa 2 1 91 90)),
  .st 4 (s 93 (.ld1 92)),
  .st 5 (m 94 7),
  .st 6 (m 95 9),
  .st 7 (s 96 (.ia 2 94 (k 0))),
  .st 8 (s 97 (.iaa 2 1 96 95)),
  .st 9 (s 98 (.ld1 97)),
  .st 10 (m 10 93),
  .st 11 (m 11 98)])
 (.seq (.seq (.reg [s 12 (.mv (k 0))])
 (.block 2 (.loop (.seq (.seq (.reg [m 99 12,s 100 (.bin .lss 99 (k 6))])
 (.cond 100 .skip (.exit 2)))
 (.seq (.block 3 (.dreg 0 [.st 0 (m 103 10),
  .st 1 (m 104 7),
  .st 2 (m 105 12),
  .st 3 (m 106 9),
  .st 4 (s 107 (.ia 2 104 105)),
  .st 5 (s 108 (.iaa 2 1 107 106)),
  .st 6 (s 109 (.ld1 108)),
  .st 7 (s 110 (.mn 103 109)),
  .st 8 (m 111 11),
  .st 9 (m 112 7),
  .st 10 (m 113 12),
  .st 11 (m 114 9),
  .st 12 (s 115 (.ia 2 112 113)),
  .st 13 (s 116 (.iaa 2 1 115 114)),
  .st 14 (s 117 (.ld1 116)),
  .st 15 (s 118 (.mx 111 117)),
  .st 16 (m 10 110),
  .st 17 (m 11 118)]))
 (.reg [m 101 12,s 102 (.bin .add 101 (k 1)),m 12 102]))))))
 (.seq (.reg [m 119 11,m 120 9,s 121 (.iaa 2 1 4 120),s 122 (.ld1 121),s 123 (.bin .mul (k 3) 122),s 124 (.bin .lss 119 123),m 125 124,sg 126 125 false (.mv 10),sg 127 125 false (.mv 9),sg 128 125 false (.iaa 2 1 5 127),sg 129 125 false (.ld1 128),sg 130 125 false (.bin .mul (k 3) 129),sg 131 125 false (.bin .gtr 126 130),s 132 (.pick 125 (.c (.b true)) 131)])
 (.cond 132 (.seq (.reg [s 6 (.mv (.c (.b false)))])
 .ret) .skip)))))
 (.reg [m 87 9,s 88 (.bin .add 87 (k 1)),m 9 88]))))))
 (.seq (.seq (.reg [s 13 (.mv (k 0))])
 (.block 4 (.loop (.seq (.seq (.reg [m 133 13,s 134 (.bin .lss 133 (k 6))])
 (.cond 134 .skip (.exit 4)))
 (.seq (.block 5 (.seq (.dreg 2 [.st 0 (m 137 7),
  .st 1 (m 138 13),
  .st 2 (s 139 (.ia 2 137 138)),
  .st 3 (s 140 (.ldn 2 139)),
  .st 4 (m 141 7),
  .st 5 (m 142 13),
  .st 6 (s 143 (.bin .add 142 (k 1))),
  .st 7 (s 144 (.bin .rem 143 (k 6))),
  .st 8 (s 145 (.ia 2 141 144)),
  .st 9 (s 146 (.ldn 2 145)),
  .fl 10 (f 14 (.alloc [(i 0),(i 0)])) 0,
  .fl 11 (f 15 (.alloc [(i 0),(i 0)])) 1,
  .ef 12 (st 2 14 140) [0,1] [s 146 (.ldn 2 145)],
  .ef 13 (st 2 15 146) [] []])
 (.seq (.dreg 0 [.st 0 (s 147 (.ldn 2 14)),
  .st 1 (s 148 (.ldn 2 15)),
  .st 2 (m 149 7),
  .st 3 (m 150 13),
  .st 4 (s 151 (.bin .add 150 (k 3))),
  .st 5 (s 152 (.bin .rem 151 (k 6))),
  .st 6 (s 153 (.ia 2 149 152)),
  .st 7 (s 154 (.iaa 2 1 153 (k 0))),
  .st 8 (s 155 (.ld1 154)),
  .st 9 (m 156 7),
  .st 10 (m 157 13),
  .st 11 (s 158 (.bin .add 157 (k 3))),
  .st 12 (s 159 (.bin .rem 158 (k 6))),
  .st 13 (s 160 (.ia 2 156 159)),
  .st 14 (s 161 (.iaa 2 1 160 (k 1))),
  .st 15 (s 162 (.ld1 161)),
  .ef 16 (c 163 (.call 296 [147,148,155,162])) [] [],
  .st 17 (m 16 163)])
 (.seq (.reg [s 17 (.mv (.c (.b true)))])
 (.seq (.seq (.reg [s 18 (.mv (k 0))])
 (.block 6 (.loop (.seq (.seq (.reg [m 164 18,s 165 (.bin .lss 164 (k 4))])
 (.cond 165 .skip (.exit 6)))
 (.seq (.block 7 (.seq (.dreg 0 [.st 0 (s 168 (.ldn 2 14)),
  .st 1 (s 169 (.ldn 2 15)),
  .st 2 (m 170 18),
  .st 3 (s 171 (.iaa 4 2 8 170)),
  .st 4 (s 172 (.iaa 2 1 171 (k 0))),
  .st 5 (s 173 (.ld1 172)),
  .st 6 (m 174 18),
  .st 7 (s 175 (.iaa 4 2 8 174)),
  .st 8 (s 176 (.iaa 2 1 175 (k 1))),
  .st 9 (s 177 (.ld1 176)),
  .ef 10 (c 178 (.call 296 [168,169,173,177])) [] [],
  .st 11 (m 19 178)])
 (.reg [m 179 17,m 180 179,sg 181 180 true (.mv 19),sg 182 180 true (.bin .neq 181 (k 0)),s 183 (.pick 180 182 (.c (.b false))),m 184 183,sg 185 184 true (.mv 19),sg 186 184 true (.mv 16),sg 187 184 true (.bin .neq 185 186),s 188 (.pick 184 187 (.c (.b false))),m 17 188])))
 (.reg [m 166 18,s 167 (.bin .add 166 (k 1)),m 18 167]))))))
 (.seq (.reg [m 189 17])
 (.cond 189 (.seq (.reg [s 6 (.mv (.c (.b false)))])
 .ret) .skip)))))))
 (.reg [m 135 13,s 136 (.bin .add 135 (k 1)),m 13 136]))))))
 (.seq (.reg [s 6 (.mv (.c (.b true)))])
 .ret))))))) [.t 6]
def af219 : AFn := .code 47 (.seq (.reg [f 1 (.box 0),s 2 (.mv (.c (.b false)))])
 (.seq (.dreg 0 [.st 0 (s 3 (.fa 0 1)),
  .st 1 (s 4 (.ld1 3)),
  .st 2 (s 5 (.bin .geq 4 (k 0))),
  .st 3 (m 6 5),
  .st 4 (sg 7 6 true (.fa 0 1)),
  .st 5 (sg 8 6 true (.ld1 7)),
  .st 6 (sg 9 6 true (.bin .leq 8 (k 18))),
  .st 7 (s 10 (.pick 6 9 (.c (.b false)))),
  .st 8 (m 11 10),
  .st 9 (sg 12 11 true (.fa 1 1)),
  .st 10 (sg 13 11 true (.ld1 12)),
  .st 11 (sg 14 11 true (.bin .geq 13 (k 0))),
  .st 12 (s 15 (.pick 11 14 (.c (.b false)))),
  .st 13 (m 16 15),
  .st 14 (sg 17 16 true (.fa 1 1)),
  .st 15 (sg 18 16 true (.ld1 17)),
  .st 16 (sg 19 16 true (.fa 0 1)),
  .st 17 (sg 20 16 true (.ld1 19)),
  .ef 18 (cg 21 16 true (.call 151 [20])) [] [sg 18 16 true (.ld1 17)],
  .st 19 (sg 22 16 true (.bin .lss 18 21)),
  .st 20 (s 23 (.pick 16 22 (.c (.b false)))),
  .st 21 (m 24 23),
  .st 22 (sg 25 24 true (.fa 2 1)),
  .st 23 (sg 26 24 true (.ld1 25)),
  .st 24 (sg 27 24 true (.bin .geq 26 (k 0))),
  .st 25 (s 28 (.pick 24 27 (.c (.b false)))),
  .st 26 (m 29 28),
  .st 27 (sg 30 29 true (.fa 2 1)),
  .st 28 (sg 31 29 true (.ld1 30)),
  .st 29 (sg 32 29 true (.fa 0 1)),
  .st 30 (sg 33 29 true (.ld1 32)),
  .ef 31 (cg 34 29 true (.call 151 [33])) [] [sg 31 29 true (.ld1 30)],
  .st 32 (sg 35 29 true (.bin .lss 31 34)),
  .st 33 (s 36 (.pick 29 35 (.c (.b false)))),
  .st 34 (m 37 36),
  .st 35 (sg 38 37 true (.fa 3 1)),
  .st 36 (sg 39 37 true (.ld1 38)),
  .st 37 (sg 40 37 true (.bin .geq 39 (k 0))),
  .st 38 (s 41 (.pick 37 40 (.c (.b false)))),
  .st 39 (m 42 41),
  .st 40 (sg 43 42 true (.fa 3 1)),
  .st 41 (sg 44 42 true (.ld1 43)),
  .st 42 (sg 45 42 true (.bin .leq 44 (k 12))),
  .st 43 (s 46 (.pick 42 45 (.c (.b false)))),
  .st 44 (m 2 46)])
 .ret)) [.t 2]
def af220 : AFn := .code 59 (.seq (.reg [f 2 (.box 0),s 4 (.mv (k 0)),s 5 (.mv (k 0)),s 6 (.mv (.c (.b false)))])
 (.seq (.seq (.reg [m 11 1,s 12 (.bin .lss 11 (k 0)),m 13 12,sg 14 13 false (.mv 1),sg 15 13 false (.bin .gtr 14 (k 12)),s 16 (.pick 13 (.c (.b true)) 15),m 17 16,sg 18 17 false (.fa 0 2),sg 19 17 false (.ld1 18),sg 20 17 false (.bin .lss 19 (.c (.i .i64 (-1073741824)))),s 21 (.pick 17 (.c (.b true)) 20),m 22 21,sg 23 22 false (.fa 0 2),sg 24 22 false (.ld1 23),sg 25 22 false (.bin .gtr 24 (k 1073741824)),s 26 (.pick 22 (.c (.b true)) 25),m 27 26,sg 28 27 false (.fa 1 2),sg 29 27 false (.ld1 28),sg 30 27 false (.bin .lss 29 (.c (.i .i64 (-1073741824)))),s 31 (.pick 27 (.c (.b true)) 30),m 32 31,sg 33 32 false (.fa 1 2),sg 34 32 false (.ld1 33),sg 35 32 false (.bin .gtr 34 (k 1073741824)),s 36 (.pick 32 (.c (.b true)) 35)])
 (.cond 36 (.seq (.reg [s 4 (.mv (k 0)),s 5 (.mv (k 0)),s 6 (.mv (.c (.b false)))])
 .ret) .skip))
 (.seq (.reg [m 38 1,s 39 (.bin .sub (k 12) 38),c 40 (.call 178 [39]),m 37 40,s 41 (.ext 37 0),s 42 (.ext 37 1),f 7 (.alloc [(i 0),(i 0)]),st 2 7 41,m 8 42])
 (.seq (.reg [s 44 (.ldn 2 2),s 45 (.ldn 2 7),c 46 (.call 103 [44,45]),m 43 46,s 47 (.ext 43 0),s 48 (.ext 43 1),f 9 (.alloc [(i 0),(i 0)]),st 2 9 47,m 10 48])
 (.seq (.dreg 0 [.st 0 (s 49 (.fa 0 9)),
  .st 1 (s 50 (.ld1 49)),
  .st 2 (s 51 (.bin .mul (k 52) 50)),
  .st 3 (s 52 (.fa 1 9)),
  .st 4 (s 53 (.ld1 52)),
  .st 5 (s 54 (.bin .mul (k 26) 53)),
  .st 6 (s 55 (.bin .add 51 54)),
  .st 7 (s 56 (.fa 1 9)),
  .st 8 (s 57 (.ld1 56)),
  .st 9 (s 58 (.bin .mul (k 45) 57)),
  .st 10 (m 4 55),
  .st 11 (m 5 58),
  .st 12 (s 6 (.mv (.c (.b true))))])
 .ret))))) [.t 4,.t 5,.t 6]
def af221 : AFn := .code 134 (.seq (.reg [s 8 (.mv (.c .sn))])
 (.seq (.seq (.reg [m 21 0,c 22 (.call 226 [21]),s 23 (.un .not 22),m 24 23,sg 25 24 false (.mv 1),sg 26 24 false (.bin .lss 25 (k 0)),s 27 (.pick 24 (.c (.b true)) 26),m 28 27,sg 29 28 false (.mv 1),sg 30 28 false (.bin .gtr 29 (k 1)),s 31 (.pick 28 (.c (.b true)) 30)])
 (.cond 31 (.seq (.reg [s 8 (.mv (.c .sn))])
 .ret) .skip))
 (.seq (.reg [s 9 (.mv (.c .sn))])
 (.seq (.seq (.reg [s 10 (.mv (k 0))])
 (.block 0 (.loop (.seq (.seq (.reg [m 32 10,m 33 0,s 34 (.len 33),s 35 (.bin .lss 32 34)])
 (.cond 35 .skip (.exit 0)))
 (.seq (.block 1 (.seq (.dreg 2 [.st 0 (m 38 0),
  .st 1 (m 39 10),
  .st 2 (s 40 (.ia 2 38 39)),
  .st 3 (s 41 (.ldn 2 40)),
  .st 4 (m 42 0),
  .st 5 (m 43 10),
  .st 6 (s 44 (.bin .add 43 (k 1))),
  .st 7 (m 45 0),
  .st 8 (s 46 (.len 45)),
  .st 9 (s 47 (.bin .rem 44 46)),
  .st 10 (s 48 (.ia 2 42 47)),
  .st 11 (s 49 (.ldn 2 48)),
  .fl 12 (f 11 (.alloc [(i 0),(i 0)])) 0,
  .fl 13 (f 12 (.alloc [(i 0),(i 0)])) 1,
  .ef 14 (st 2 11 41) [0,1] [s 49 (.ldn 2 48)],
  .ef 15 (st 2 12 49) [] []])
 (.seq (.dreg 0 [.st 0 (m 50 1),
  .st 1 (s 51 (.iaa 2 1 11 50)),
  .st 2 (s 52 (.ld1 51)),
  .st 3 (m 53 1),
  .st 4 (s 54 (.iaa 2 1 12 53)),
  .st 5 (s 55 (.ld1 54)),
  .st 6 (m 13 52),
  .st 7 (m 14 55)])
 (.seq (.seq (.reg [m 56 13,m 57 2,s 58 (.bin .eql 56 57),m 59 58,sg 60 59 false (.mv 13),sg 61 59 false (.mv 2),sg 62 59 false (.bin .gtr 60 61),sg 63 59 false (.mv 3),sg 64 59 false (.eqb false 62 63),s 65 (.pick 59 (.c (.b true)) 64)])
 (.cond 65 (.reg [m 66 9,s 67 (.ldn 2 11),f 68 (.bsl 2 1 [(i 0),(i 0)] [(0,2,67)]),e 69 (.app 2 16 66 68),m 9 69]) .skip))
 (.seq (.reg [m 70 13,m 71 2,s 72 (.bin .lss 70 71),m 73 72,sg 74 73 true (.mv 14),sg 75 73 true (.mv 2),sg 76 73 true (.bin .gtr 74 75),s 77 (.pick 73 76 (.c (.b false))),m 78 77,sg 79 78 false (.mv 13),sg 80 78 false (.mv 2),sg 81 78 false (.bin .gtr 79 80),sg 82 78 false (.mv 81),sg 83 82 true (.mv 14),sg 84 82 true (.mv 2),sg 85 82 true (.bin .lss 83 84),sg 86 78 false (.pick 82 85 (.c (.b false))),s 87 (.pick 78 (.c (.b true)) 86)])
 (.cond 87 (.seq (.dreg 0 [.st 0 (m 88 1),
  .st 1 (s 89 (.bin .sub (k 1) 88)),
  .st 2 (s 90 (.iaa 2 1 12 89)),
  .st 3 (s 91 (.ld1 90)),
  .st 4 (m 92 1),
  .st 5 (s 93 (.bin .sub (k 1) 92)),
  .st 6 (s 94 (.iaa 2 1 11 93)),
  .st 7 (s 95 (.ld1 94)),
  .st 8 (s 96 (.bin .sub 91 95)),
  .st 9 (m 97 2),
  .st 10 (m 98 13),
  .st 11 (s 99 (.bin .sub 97 98)),
  .st 12 (s 100 (.bin .mul 96 99)),
  .st 13 (m 101 14),
  .st 14 (m 102 13),
  .st 15 (s 103 (.bin .sub 101 102)),
  .st 16 (m 15 100),
  .st 17 (m 16 103)])
 (.seq (.seq (.reg [m 104 16,s 105 (.bin .lss 104 (k 0))])
 (.cond 105 (.reg [m 106 15,s 107 (.un .neg 106),m 108 16,s 109 (.un .neg 108),m 15 107,m 16 109]) .skip))
 (.seq (.reg [m 111 15,m 112 16,c 113 (.call 179 [111,112]),m 110 113,s 114 (.ext 110 0),s 115 (.ext 110 1),s 116 (.ext 110 2),m 17 114,m 18 115,m 19 116])
 (.seq (.reg [m 117 2,m 118 2,s 119 (.build [(i 0),(i 0)] [(0,1,117),(1,1,118)]),f 20 (.alloc [(i 0),(i 0)]),st 2 20 119])
 (.seq (.reg [m 120 1,s 121 (.bin .sub (k 1) 120),m 122 1,s 123 (.bin .sub (k 1) 122),s 124 (.iaa 2 1 11 123),s 125 (.ld1 124),m 126 17,s 127 (.bin .add 125 126),s 128 (.iaa 2 1 20 121),st 1 128 127])
 (.reg [m 129 9,s 130 (.ldn 2 20),f 131 (.bsl 2 1 [(i 0),(i 0)] [(0,2,130)]),e 132 (.app 2 16 129 131),m 9 132])))))) .skip))))))
 (.reg [m 36 10,s 37 (.bin .add 36 (k 1)),m 10 37]))))))
 (.seq (.reg [m 133 9,m 8 133])
 .ret))))) [.t 8]
def af222 : AFn := .code 37 (.seq (.reg [s 4 (.mv (.c (.b false)))])
 (.seq (.seq (.reg [m 7 0,s 8 (.len 7),m 9 1,s 10 (.bin .gtr 8 9)])
 (.cond 10 (.seq (.reg [s 4 (.mv (.c (.b false)))])
 .ret) .skip))
 (.seq (.seq (.reg [s 5 (.mv (k 0))])
 (.block 0 (.loop (.seq (.seq (.reg [m 11 5,m 12 0,s 13 (.len 12),s 14 (.bin .lss 11 13)])
 (.cond 14 .skip (.exit 0)))
 (.seq (.block 1 (.seq (.reg [s 6 (.mv (k 0))])
 (.block 2 (.loop (.seq (.seq (.reg [m 17 6,s 18 (.bin .lss 17 (k 2))])
 (.cond 18 .skip (.exit 2)))
 (.seq (.block 3 (.seq (.reg [m 21 0,m 22 5,m 23 6,s 24 (.ia 2 21 22),s 25 (.iaa 2 1 24 23),s 26 (.ld1 25),s 27 (.bin .lss 26 (.c (.i .i64 (-536870912)))),m 28 27,sg 29 28 false (.mv 0),sg 30 28 false (.mv 5),sg 31 28 false (.mv 6),sg 32 28 false (.ia 2 29 30),sg 33 28 false (.iaa 2 1 32 31),sg 34 28 false (.ld1 33),sg 35 28 false (.bin .gtr 34 (k 536870912)),s 36 (.pick 28 (.c (.b true)) 35)])
 (.cond 36 (.seq (.reg [s 4 (.mv (.c (.b false)))])
 .ret) .skip)))
 (.reg [m 19 6,s 20 (.bin .add 19 (k 1)),m 6 20])))))))
 (.reg [m 15 5,s 16 (.bin .add 15 (k 1)),m 5 16]))))))
 (.seq (.reg [s 4 (.mv (.c (.b true)))])
 .ret)))) [.t 4]
def af223 : AFn := .code 24 (.seq (.reg [f 2 (.box 0),f 3 (.box 1),s 4 (.mv (.c (.b false)))])
 (.seq (.reg [s 5 (.iaa 2 1 2 (k 0)),s 6 (.ld1 5),s 7 (.iaa 2 1 3 (k 0)),s 8 (.ld1 7),s 9 (.bin .lss 6 8),m 10 9,sg 11 10 false (.iaa 2 1 2 (k 0)),sg 12 10 false (.ld1 11),sg 13 10 false (.iaa 2 1 3 (k 0)),sg 14 10 false (.ld1 13),sg 15 10 false (.bin .eql 12 14),sg 16 10 false (.mv 15),sg 17 16 true (.iaa 2 1 2 (k 1)),sg 18 16 true (.ld1 17),sg 19 16 true (.iaa 2 1 3 (k 1)),sg 20 16 true (.ld1 19),sg 21 16 true (.bin .lss 18 20),sg 22 10 false (.pick 16 21 (.c (.b false))),s 23 (.pick 10 (.c (.b true)) 22),m 4 23])
 .ret)) [.t 4]
def af224 : AFn := .code 14 (.seq (.reg [f 3 (.box 0),f 4 (.box 1),f 5 (.box 2),s 6 (.mv (k 0))])
 (.seq (.reg [s 7 (.ldn 2 3),s 8 (.ldn 2 4),s 9 (.iaa 2 1 5 (k 0)),s 10 (.ld1 9),s 11 (.iaa 2 1 5 (k 1)),s 12 (.ld1 11),c 13 (.call 296 [7,8,10,12]),m 6 13])
 .ret)) [.t 6]
def af226 : AFn := .code 42 (.seq (.reg [s 2 (.mv (.c (.b false)))])
 (.seq (.seq (.reg [m 5 0,s 6 (.len 5),s 7 (.bin .gtr 6 (k 100))])
 (.cond 7 (.seq (.reg [s 2 (.mv (.c (.b false)))])
 .ret) .skip))
 (.seq (.seq (.reg [s 3 (.mv (k 0))])
 (.block 0 (.loop (.seq (.seq (.reg [m 8 3,m 9 0,s 10 (.len 9),s 11 (.bin .lss 8 10)])
 (.cond 11 .skip (.exit 0)))
 (.seq (.block 1 (.seq (.reg [s 4 (.mv (k 0))])
 (.block 2 (.loop (.seq (.seq (.reg [m 14 4,s 15 (.bin .lss 14 (k 2))])
 (.cond 15 .skip (.exit 2)))
 (.seq (.block 3 (.seq (.reg [m 18 0,m 19 3,m 20 4,s 21 (.ia 2 18 19),s 22 (.iaa 2 1 21 20),s 23 (.ld1 22),s 24 (.bin .lss 23 (.c (.i .i64 (-1099511627776)))),m 25 24,sg 26 25 false (.mv 0),sg 27 25 false (.mv 3),sg 28 25 false (.mv 4),sg 29 25 false (.ia 2 26 27),sg 30 25 false (.iaa 2 1 29 28),sg 31 25 false (.ld1 30),sg 32 25 false (.bin .gtr 31 (k 1099511627776)),s 33 (.pick 25 (.c (.b true)) 32)])
 (.cond 33 (.seq (.reg [s 2 (.mv (.c (.b false)))])
 .ret) .skip)))
 (.reg [m 16 4,s 17 (.bin .add 16 (k 1)),m 4 17])))))))
 (.reg [m 12 3,s 13 (.bin .add 12 (k 1)),m 3 13]))))))
 (.seq (.reg [m 34 0,c 35 (.call 298 [34,(k 0)]),s 36 (.bin .leq 35 (k 1073741824)),m 37 36,sg 38 37 true (.mv 0),cg 39 37 true (.call 298 [38,(k 1)]),sg 40 37 true (.bin .leq 39 (k 1073741824)),s 41 (.pick 37 40 (.c (.b false))),m 2 41])
 .ret)))) [.t 2]
def af227 : AFn := .code 9 (.seq (.reg [s 2 (.mv (.c (.b false)))])
 (.seq (.reg [m 3 0,s 4 (.bin .geq 3 (k 1)),m 5 4,sg 6 5 true (.mv 0),sg 7 5 true (.bin .leq 6 (k 1000)),s 8 (.pick 5 7 (.c (.b false))),m 2 8])
 .ret)) [.t 2]
def af228 : AFn := .code 20 (.seq (.reg [s 2 (.mv (.c (.s [])))])
 (.seq (.reg [s 3 (.mv (.c .sn))])
 (.seq (.block 0 (.loop (.seq (.seq (.reg [m 4 0,s 5 (.bin .gtr 4 (.c (.i .u64 127)))])
 (.cond 5 .skip (.exit 0)))
 (.block 1 (.seq (.reg [m 6 3,m 7 0,s 8 (.cvi .u8 7),s 9 (.bin .or 8 (.c (.i .u8 128))),f 10 (.bsl 1 1 [(.i .u8 0)] [(0,1,9)]),e 11 (.app 1 1 6 10),m 3 11])
 (.reg [m 12 0,s 13 (.bin .shr 12 (.c (.i .u64 7))),m 0 13]))))))
 (.seq (.reg [m 14 3,m 15 0,s 16 (.cvi .u8 15),f 17 (.bsl 1 1 [(.i .u8 0)] [(0,1,16)]),e 18 (.app 1 1 14 17),s 19 (.cvb 18),m 2 19])
 .ret)))) [.t 2]
def af229 : AFn := .code 23 (.seq (.reg [s 4 (.mv (.c (.s [])))])
 (.seq (.reg [s 5 (.mv (.c (.s [])))])
 (.seq (.seq (.reg [s 6 (.mv (k 0))])
 (.block 0 (.loop (.seq (.seq (.reg [m 7 6,m 8 1,s 9 (.len 8),s 10 (.bin .lss 7 9)])
 (.cond 10 .skip (.exit 0)))
 (.seq (.block 1 (.reg [m 13 5,m 14 1,m 15 6,s 16 (.ia 1 14 15),s 17 (.ld1 16),c 18 (.call 228 [17]),s 19 (.bin .add 13 18),m 5 19]))
 (.reg [m 11 6,s 12 (.bin .add 11 (k 1)),m 6 12]))))))
 (.seq (.reg [m 20 0,m 21 5,c 22 (.call 156 [20,21]),m 4 22])
 .ret)))) [.t 4]
def af230 : AFn := .code 63 (.seq (.reg [s 2 (.mv (.c .sn))])
 (.seq (.seq (.reg [m 5 0,s 6 (.len 5),s 7 (.bin .lss 6 (k 3))])
 (.cond 7 (.seq (.reg [s 2 (.mv (.c .sn))])
 .ret) .skip))
 (.seq (.dreg 1 [.st 0 (m 8 0),
  .st 1 (s 9 (.ia 2 8 (k 0))),
  .st 2 (s 10 (.iaa 2 1 9 (k 0))),
  .st 3 (s 11 (.ld1 10)),
  .st 5 (m 13 0),
  .st 6 (s 14 (.ia 2 13 (k 0))),
  .st 7 (s 15 (.iaa 2 1 14 (k 1))),
  .st 8 (s 16 (.ld1 15)),
  .st 10 (m 18 0),
  .st 11 (s 19 (.len 18)),
  .st 12 (s 20 (.bin .sub 19 (k 1))),
  .st 13 (s 21 (.bin .mul (k 8) 20)),
  .st 14 (s 22 (.bin .add 21 (k 2))),
  .st 15 (s 23 (.cvi .u64 22)),
  .ef 4 (c 12 (.call 158 [11])) [] [s 16 (.ld1 15)],
  .ef 9 (c 17 (.call 158 [16])) [] [],
  .fl 16 (f 24 (.bsl 1 4 [(.i .u64 0),(.i .u64 0),(.i .u64 0),(.i .u64 0)] [(0,1,(.c (.i .u64 9))),(1,1,12),(2,1,17),(3,1,23)])) 0,
  .st 17 (m 3 24)])
 (.seq (.seq (.reg [s 4 (.mv (k 1))])
 (.block 0 (.loop (.seq (.seq (.reg [m 25 4,m 26 0,s 27 (.len 26),s 28 (.bin .lss 25 27)])
 (.cond 28 .skip (.exit 0)))
 (.seq (.block 1 (.dreg 1 [.st 0 (m 31 3),
  .st 1 (m 32 0),
  .st 2 (m 33 4),
  .st 3 (s 34 (.ia 2 32 33)),
  .st 4 (s 35 (.iaa 2 1 34 (k 0))),
  .st 5 (s 36 (.ld1 35)),
  .st 6 (m 37 0),
  .st 7 (m 38 4),
  .st 8 (s 39 (.bin .sub 38 (k 1))),
  .st 9 (s 40 (.ia 2 37 39)),
  .st 10 (s 41 (.iaa 2 1 40 (k 0))),
  .st 11 (s 42 (.ld1 41)),
  .st 12 (s 43 (.bin .sub 36 42)),
  .st 14 (m 45 0),
  .st 15 (m 46 4),
  .st 16 (s 47 (.ia 2 45 46)),
  .st 17 (s 48 (.iaa 2 1 47 (k 1))),
  .st 18 (s 49 (.ld1 48)),
  .st 19 (m 50 0),
  .st 20 (m 51 4),
  .st 21 (s 52 (.bin .sub 51 (k 1))),
  .st 22 (s 53 (.ia 2 50 52)),
  .st 23 (s 54 (.iaa 2 1 53 (k 1))),
  .st 24 (s 55 (.ld1 54)),
  .st 25 (s 56 (.bin .sub 49 55)),
  .ef 13 (c 44 (.call 158 [43])) [] [s 49 (.ld1 48),s 55 (.ld1 54)],
  .ef 26 (c 57 (.call 158 [56])) [] [],
  .fl 27 (f 58 (.bsl 1 2 [(.i .u64 0),(.i .u64 0)] [(0,1,44),(1,1,57)])) 0,
  .ef 28 (e 59 (.app 1 8 31 58)) [0] [],
  .st 29 (m 3 59)]))
 (.reg [m 29 4,s 30 (.bin .add 29 (k 1)),m 4 30]))))))
 (.seq (.reg [m 60 3,f 61 (.bsl 1 1 [(.i .u64 0)] [(0,1,(.c (.i .u64 15)))]),e 62 (.app 1 8 60 61),m 2 62])
 .ret))))) [.t 2]
def af231 : AFn := .code 20 (.seq (.reg [f 2 (.alloc [(i 0),(i 0),(i 0),(i 0)])])
 (.seq (.reg [m 4 0,s 5 (.mkfn (.func 160) [4] []),m 3 5])
 (.seq (.reg [m 6 3,c 7 (.dyn 6 [(k 4)]),s 8 (.cvi .i64 7),m 9 3,c 10 (.dyn 9 [(k 4)]),s 11 (.cvi .i64 10),m 12 3,c 13 (.dyn 12 [(k 4)]),s 14 (.cvi .i64 13),m 15 3,c 16 (.dyn 15 [(k 4)]),s 17 (.cvi .i32 16),s 18 (.cvi .i64 17),s 19 (.build [(i 0),(i 0),(i 0),(i 0)] [(0,1,8),(1,1,11),(2,1,14),(3,1,18)]),st 4 2 19])
 .ret))) [.cn 2 4]
def af234 : AFn := .code 59 (.seq (.reg [s 4 (.mv (.c .sn)),s 5 (.mv (.c (.b false)))])
 (.seq (.seq (.reg [m 9 0,s 10 (.len 9),s 11 (.bin .leq 10 (k 12)),m 12 11,sg 13 12 false (.mv 0),sg 14 12 false (.ia 1 13 (k 0)),sg 15 12 false (.ld1 14),sg 16 12 false (.bin .neq 15 (.c (.i .u8 165))),s 17 (.pick 12 (.c (.b true)) 16)])
 (.cond 17 (.seq (.reg [s 4 (.mv (.c .sn)),s 5 (.mv (.c (.b false)))])
 .ret) .skip))
 (.seq (.reg [m 18 0,s 19 (.slc 1 18 (some (k 1)) none none),s 20 (.build [.sn,(.b false)] [(0,1,19)]),f 21 (.box 20),m 6 21])
 (.seq (.reg [m 22 6,c 23 (.call 160 [22,(k 8)]),m 24 6,c 25 (.call 160 [24,(k 3)]),s 26 (.cvi .i64 25),m 7 23,m 8 26])
 (.seq (.seq (.reg [m 27 7,m 28 1,s 29 (.bin .neq 27 28),m 30 29,sg 31 30 false (.mv 8),sg 32 30 false (.bin .gtr 31 (k 400000)),s 33 (.pick 30 (.c (.b true)) 32),m 34 33,sg 35 34 false (.mv 8),sg 36 34 false (.mv 6),sg 37 34 false (.nilc 36),sg 38 34 false (.fa 0 37),sg 39 34 false (.ld1 38),sg 40 34 false (.len 39),sg 41 34 false (.bin .geq 35 40),s 42 (.pick 34 (.c (.b true)) 41),m 43 42,sg 44 43 false (.mv 6),sg 45 43 false (.nilc 44),sg 46 43 false (.fa 0 45),sg 47 43 false (.ld1 46),sg 48 43 false (.mv 8),sg 49 43 false (.ia 1 47 48),sg 50 43 false (.ld1 49),sg 51 43 false (.bin .neq 50 (.c (.i .u8 90))),s 52 (.pick 43 (.c (.b true)) 51)])
 (.cond 52 (.seq (.reg [s 4 (.mv (.c .sn)),s 5 (.mv (.c (.b false)))])
 .ret) .skip))
 (.seq (.reg [m 53 6,s 54 (.nilc 53),s 55 (.fa 0 54),s 56 (.ld1 55),m 57 8,s 58 (.slc 1 56 none (some 57) none),m 4 58,s 5 (.mv (.c (.b true)))])
 .ret)))))) [.t 4,.t 5]
def af235 : AFn := .code 62 (.seq (.reg [s 4 (.mv (.c .sn))])
 (.seq (.reg [m 10 0,c 11 (.call 173 [10]),m 5 11])
 (.seq (.seq (.reg [m 12 1,s 13 (.len 12),s 14 (.mv (k 0))])
 (.block 0 (.loop (.seq (.reg [s 15 (.bin .lss 14 13)])
 (.seq (.cond 15 .skip (.exit 0))
 (.seq (.block 1 (.seq (.reg [s 16 (.ia 5 12 14),s 17 (.ldn 5 16),f 7 (.alloc [(i 0),(i 0),(i 0),(i 0),(i 0)]),st 5 7 17])
 (.seq (.reg [m 19 5,s 20 (.fa 1 7),s 21 (.fa 0 20),s 22 (.ld1 21),c 23 (.call 289 [19,22]),m 18 23,s 24 (.ext 18 0),s 25 (.ext 18 1),m 8 24,m 9 25])
 (.block 2 (.seq (.reg [s 27 (.fa 0 7),s 28 (.ld1 27),s 29 (.bin .eql 28 (k 1)),m 30 29,sg 31 30 true (.mv 9),s 32 (.pick 30 31 (.c (.b false))),m 26 32])
 (.cond 26 (.reg [m 33 5,m 34 8,s 35 (.fa 1 7),s 36 (.ldn 4 35),s 37 (.ia 4 33 34),st 4 37 36]) (.seq (.reg [s 39 (.fa 0 7),s 40 (.ld1 39),s 41 (.bin .eql 40 (k 1)),m 38 41])
 (.cond 38 (.reg [m 42 5,m 43 8,s 44 (.fa 1 7),s 45 (.ldn 4 44),f 46 (.bsl 4 1 [(i 0),(i 0),(i 0),(i 0)] [(0,4,45)]),c 47 (.call 299 [42,43,46]),m 5 47]) (.seq (.reg [s 49 (.fa 0 7),s 50 (.ld1 49),s 51 (.bin .eql 50 (k 2)),m 52 51,sg 53 52 true (.mv 9),s 54 (.pick 52 53 (.c (.b false))),m 48 54])
 (.cond 48 (.reg [m 55 5,m 56 8,m 57 8,s 58 (.bin .add 57 (k 1)),c 59 (.call 300 [55,56,58]),m 5 59]) .skip))))))))))
 (.reg [s 60 (.bin .add 14 (k 1)),m 14 60])))))))
 (.seq (.reg [m 61 5,m 4 61])
 .ret)))) [.t 4]
def af236 : AFn := .code 31 (.seq (.reg [s 4 (.mv (.c .sn)),s 5 (.mv (k 0))])
 (.seq (.block 0 (.seq (.reg [m 8 1,s 9 (.len 8),s 10 (.bin .gtr 9 (k 400000)),m 7 10])
 (.cond 7 (.seq (.reg [s 4 (.mv (.c .sn)),s 5 (.mv (k 11))])
 .ret) (.seq (.reg [m 12 0,s 13 (.bin .lss 12 (.c (.i .u64 1))),m 14 13,sg 15 14 false (.mv 0),sg 16 14 false (.bin .gtr 15 (.c (.i .u64 4611686018427387904))),s 17 (.pick 14 (.c (.b true)) 16),m 11 17])
 (.cond 11 (.seq (.reg [s 4 (.mv (.c .sn)),s 5 (.mv (k 1))])
 .ret) .skip)))))
 (.seq (.reg [f 18 (.bsl 1 1 [(.i .u8 0)] [(0,1,(.c (.i .u8 165)))]),m 19 0,c 20 (.call 115 [18,19,(k 8)]),m 6 20])
 (.seq (.reg [m 21 6,m 22 1,s 23 (.len 22),s 24 (.cvi .u64 23),c 25 (.call 115 [21,24,(k 3)]),m 6 25])
 (.seq (.reg [m 26 6,m 27 1,e 28 (.app 1 1 26 27),f 29 (.bsl 1 1 [(.i .u8 0)] [(0,1,(.c (.i .u8 90)))]),e 30 (.app 1 1 28 29),m 4 30,s 5 (.mv (k 0))])
 .ret))))) [.t 4,.t 5]
def af237 : AFn := .code 27 (.seq (.reg [s 2 (.mv (k 0))])
 (.seq (.seq (.reg [m 3 0,s 4 (.nilc 3),s 5 (.fa 3 4),s 6 (.ld1 5)])
 (.cond 6 (.seq (.reg [s 2 (.mv (k 9))])
 .ret) .skip))
 (.seq (.seq (.reg [m 7 0,s 8 (.nilc 7),s 9 (.fa 4 8),s 10 (.ld1 9),s 11 (.bin .gtr 10 (k 0))])
 (.cond 11 (.seq (.reg [m 12 0,s 13 (.nilc 12),s 14 (.fa 4 13),s 15 (.ld1 14),s 16 (.bin .sub 15 (k 1)),s 17 (.nilc 12),s 18 (.fa 4 17),st 1 18 16])
 (.reg [m 19 0,m 20 0,s 21 (.nilc 20),s 22 (.fa 4 21),s 23 (.ld1 22),s 24 (.bin .eql 23 (k 0)),s 25 (.nilc 19),s 26 (.fa 3 25),st 1 26 24])) .skip))
 (.seq (.reg [s 2 (.mv (k 0))])
 .ret)))) [.t 2]
def af238 : AFn := .code 21 (.seq (.reg [f 3 (.box 0),s 6 (.mv (k 0))])
 (.seq (.dreg 0 [.st 0 (m 7 1),
  .st 1 (s 8 (.fa 0 3)),
  .st 2 (s 9 (.ld1 8)),
  .st 3 (s 10 (.slc 1 7 (some 9) none none)),
  .st 4 (s 11 (.fa 1 3)),
  .st 5 (s 12 (.ld1 11)),
  .st 6 (m 13 2),
  .st 7 (s 14 (.mx 13 (k 0))),
  .st 8 (s 15 (.fa 1 3)),
  .st 9 (s 16 (.ld1 15)),
  .st 10 (s 17 (.len 16)),
  .st 11 (s 18 (.mn 14 17)),
  .st 12 (s 19 (.slc 1 12 none (some 18) none)),
  .ef 13 (e 20 (.cpy 1 10 19)) [] [],
  .st 14 (m 6 20)])
 .ret)) [.t 6]
def af239 : AFn := .code 3 (.seq (.reg [s 0 (.mv (.c .pn))])
 (.seq (.reg [s 1 (.build [.sn,(i 0)] []),f 2 (.box 1),m 0 2])
 .ret)) [.t 0]
def af240 : AFn := .code 29 (.seq (.reg [f 1 (.box 0),s 2 (.mv (.c (.b false)))])
 (.seq (.reg [s 3 (.mv (.c (.f (.func 301) [] [])))])
 (.seq (.reg [s 4 (.fa 0 1),s 5 (.ld1 4),c 6 (.call 302 [5]),m 7 6,sg 8 7 true (.mv 3),sg 9 7 true (.fa 1 1),sg 10 7 true (.ld1 9),cg 11 7 true (.dyn 8 [10]),s 12 (.pick 7 11 (.c (.b false))),m 13 12,sg 14 13 true (.mv 3),sg 15 13 true (.fa 2 1),sg 16 13 true (.ld1 15),cg 17 13 true (.dyn 14 [16]),s 18 (.pick 13 17 (.c (.b false))),m 19 18,sg 20 19 true (.fa 3 1),sg 21 19 true (.ld1 20),sg 22 19 true (.bin .geq 21 (.c (.i .i64 (-2147483648)))),s 23 (.pick 19 22 (.c (.b false))),m 24 23,sg 25 24 true (.fa 3 1),sg 26 24 true (.ld1 25),sg 27 24 true (.bin .leq 26 (k 2147483647)),s 28 (.pick 24 27 (.c (.b false))),m 2 28])
 .ret))) [.t 2]
def af241 : AFn := .code 67 (.seq (.reg [s 4 (.mv (.c (.b false)))])
 (.seq (.reg [m 10 0,s 11 (.nilc 10),s 12 (.fa 0 11),s 13 (.ld1 12),m 14 1,s 15 (.lkp (.ag [(i 0),(i 0),(i 0),(i 0)]) true 13 14),m 9 15,s 16 (.ext 9 0),s 17 (.ext 9 1),f 5 (.alloc [(i 0),(i 0),(i 0),(i 0)]),st 4 5 16,m 6 17])
 (.seq (.seq (.reg [m 18 6,s 19 (.un .not 18)])
 (.cond 19 (.seq (.reg [s 4 (.mv (.c (.b false)))])
 .ret) .skip))
 (.seq .bad
 (.seq (.seq (.reg [s 25 (.mv (k 0))])
 (.block 0 (.loop (.seq (.reg [s 26 (.bin .lss 25 (k 13))])
 (.seq (.cond 26 .skip (.exit 0))
 (.seq (.block 1 (.seq (.reg [m 27 25,m 7 27])
 (.seq (.reg [s 28 (.ldn 4 5),m 29 7,c 30 (.call 243 [28,29]),m 8 30])
 (.seq (.dreg 0 [.st 0 (m 31 0),
  .st 1 (s 32 (.nilc 31)),
  .st 2 (s 33 (.fa 1 32)),
  .st 3 (s 34 (.ld1 33)),
  .st 4 (m 35 8),
  .st 5 (s 36 (.fa 3 5)),
  .st 6 (s 37 (.ld1 36)),
  .st 7 (m 38 1),
  .st 8 (s 39 (.build [(.i .u64 0),(i 0),(i 0)] [(0,1,35),(1,1,37),(2,1,38)])),
  .ef 9 (c 40 (.call 303 [34,39])) [] []])
 (.seq (.reg [m 41 0,m 42 7,s 43 (.nilc 41),s 44 (.fa 2 43),s 45 (.iaa 13 1 44 42),s 46 (.ld1 45),m 47 8,s 48 (.lkp (i 0) false 46 47),s 49 (.bin .sub 48 (k 1)),en (.mup 46 47 49)])
 (.seq (.reg [m 50 0,m 51 7,s 52 (.nilc 50),s 53 (.fa 2 52),s 54 (.iaa 13 1 53 51),s 55 (.ld1 54),m 56 8,s 57 (.lkp (i 0) false 55 56),s 58 (.bin .eql 57 (k 0))])
 (.cond 58 .bad .skip)))))))
 (.reg [s 66 (.bin .add 25 (k 1)),m 25 66])))))))
 (.seq (.reg [s 4 (.mv (.c (.b true)))])
 .ret)))))) [.t 4]
def af242 : AFn := .code 77 (.seq (.reg [f 3 (.box 1),s 4 (.mv (.c (.b false)))])
 (.seq (.seq (.reg [m 9 0,s 10 (.nilc 9),s 11 (.fa 0 10),s 12 (.ld1 11),s 13 (.len 12),s 14 (.bin .eql 13 (k 0))])
 (.cond 14 (.seq (.reg [m 15 0,s 16 (.ldn 3 3),f 17 (.bsl 3 1 [(.i .u64 0),(i 0),(i 0)] [(0,3,16)]),f 18 (.bsl 1 1 [.sn] [(0,1,17)]),s 19 (.nilc 15),s 20 (.fa 0 19),st 1 20 18])
 (.seq (.reg [m 21 0,s 22 (.nilc 21),s 23 (.fa 1 22),st 1 23 (k 1)])
 (.seq (.reg [s 4 (.mv (.c (.b true)))])
 .ret))) .skip))
 (.seq (.reg [m 24 0,s 25 (.ldn 3 3),c 26 (.call 304 [24,25]),m 5 26])
 (.seq (.reg [m 27 0,s 28 (.nilc 27),s 29 (.fa 0 28),s 30 (.ld1 29),m 31 5,s 32 (.ia 1 30 31),s 33 (.ld1 32),m 6 33])
 (.seq (.reg [m 35 6,s 36 (.ldn 3 3),c 37 (.call 305 [35,36]),m 34 37,s 38 (.ext 34 0),s 39 (.ext 34 1),m 7 38,m 8 39])
 (.seq (.seq (.reg [m 40 8])
 (.cond 40 (.seq (.reg [s 4 (.mv (.c (.b false)))])
 .ret) .skip))
 (.seq (.reg [m 41 6,s 42 (.ldn 3 3),f 43 (.bsl 3 1 [(.i .u64 0),(i 0),(i 0)] [(0,3,42)]),e 44 (.app 3 24 41 43),m 6 44])
 (.seq (.dreg 0 [.st 0 (m 45 6),
  .st 1 (m 46 7),
  .st 2 (s 47 (.bin .add 46 (k 1))),
  .st 3 (s 48 (.slc 3 45 (some 47) none none)),
  .st 4 (m 49 6),
  .st 5 (m 50 7),
  .st 6 (s 51 (.slc 3 49 (some 50) none none)),
  .ef 7 (e 52 (.cpy 3 48 51)) [] []])
 (.seq (.reg [m 53 6,m 54 7,s 55 (.ldn 3 3),s 56 (.ia 3 53 54),st 3 56 55])
 (.seq (.reg [m 57 0,s 58 (.nilc 57),s 59 (.fa 0 58),s 60 (.ld1 59),m 61 5,m 62 6,s 63 (.ia 1 60 61),st 1 63 62])
 (.seq (.reg [m 64 0,s 65 (.nilc 64),s 66 (.fa 1 65),s 67 (.ld1 66),s 68 (.bin .add 67 (k 1)),s 69 (.nilc 64),s 70 (.fa 1 69),st 1 70 68])
 (.seq (.seq (.reg [m 71 6,s 72 (.len 71),s 73 (.bin .gtr 72 (k 32))])
 (.cond 73 (.reg [m 74 0,m 75 5,c 76 (.call 306 [74,75])]) .skip))
 (.seq (.reg [s 4 (.mv (.c (.b true)))])
 .ret))))))))))))) [.t 4]
def af243 : AFn := .code 24 (.seq (.reg [f 2 (.box 0),s 4 (.mv (.c (.i .u64 0)))])
 (.seq (.reg [s 10 (.fa 1 2),s 11 (.ld1 10),s 12 (.fa 2 2),s 13 (.ld1 12),m 14 1,c 15 (.call 7 [11,13,14]),m 9 15,s 16 (.ext 9 0),s 17 (.ext 9 1),f 5 (.alloc [(i 0),(i 0),(i 0)]),st 3 5 16,m 6 17])
 (.seq (.reg [s 19 (.ldn 3 5),c 20 (.call 8 [19]),m 18 20,s 21 (.ext 18 0),s 22 (.ext 18 1),m 7 21,m 8 22])
 (.seq (.reg [m 23 7,m 4 23])
 .ret)))) [.t 4]
def af244 : AFn := .code 13 (.seq (.reg [f 1 (.box 0),s 2 (.mv (k 0)),s 3 (.mv (.c (.b false)))])
 (.seq (.reg [s 5 (.fa 1 1),s 6 (.ld1 5),s 7 (.cvi .i64 6),m 4 7])
 (.seq (.seq (.dreg 0 [.st 0 (m 8 4),
  .st 2 (s 10 (.ldn 2 1)),
  .ef 1 (c 9 (.call 307 [8])) [] [s 10 (.ldn 2 1)],
  .st 3 (s 11 (.cmpA [.u64,.u64] true 9 10))])
 (.cond 11 (.seq (.reg [s 2 (.mv (k 0)),s 3 (.mv (.c (.b false)))])
 .ret) .skip))
 (.seq (.reg [m 12 4,m 2 12,s 3 (.mv (.c (.b true)))])
 .ret)))) [.t 2,.t 3]
def af245 : AFn := .code 8 (.seq (.reg [s 2 (.mv (k 0))])
 (.seq (.seq (.reg [m 3 0,s 4 (.bin .lss 3 (k 0))])
 (.cond 4 (.seq (.reg [m 5 0,s 6 (.un .neg 5),m 2 6])
 .ret) .skip))
 (.seq (.reg [m 7 0,m 2 7])
 .ret))) [.t 2]
def af246 : AFn := .code 10 (.seq (.reg [s 4 (.mv (.c (.b false)))])
 (.seq (.reg [m 5 0,s 6 (.cvb 5),m 7 1,s 8 (.cvb 7),s 9 (.bin .eql 6 8),m 4 9])
 .ret)) [.t 4]
def af247 : AFn := .code 22 (.seq (.reg [s 2 (.mv (.c (.i .i32 0))),s 3 (.mv (k 0))])
 (.seq (.seq (.reg [m 6 0,s 7 (.len 6),s 8 (.mv (k 0))])
 (.block 0 (.loop (.seq (.reg [s 9 (.bin .lss 8 7)])
 (.seq (.cond 9 .skip (.exit 0))
 (.seq (.block 1 (.seq (.reg [s 10 (.ia 1 6 8),s 11 (.ld1 10),m 5 11])
 (.seq (.seq (.reg [m 12 5,s 13 (.bin .lss 12 (.c (.i .u8 128)))])
 (.cond 13 (.seq (.reg [m 14 5,s 15 (.cvi .i32 14),m 2 15,s 3 (.mv (k 1))])
 .ret) .skip))
 (.exit 0))))
 (.reg [s 16 (.bin .add 8 (k 1)),m 8 16])))))))
 (.seq (.reg [m 18 0,c 19 (.call 308 [18]),m 17 19,s 20 (.ext 17 0),s 21 (.ext 17 1),m 2 20,m 3 21])
 .ret))) [.t 2,.t 3]
def af248 : AFn := .code 20 (.seq (.reg [s 2 (.mv (.c .sn))])
 (.seq (.reg [s 3 (.mv (.c .sn))])
 (.seq (.seq (.reg [m 6 0,c 7 (.call 250 [6,(.c (.s [32]))]),s 8 (.len 7),s 9 (.mv (k 0))])
 (.block 0 (.loop (.seq (.reg [s 10 (.bin .lss 9 8)])
 (.seq (.cond 10 .skip (.exit 0))
 (.seq (.block 1 (.seq (.reg [s 11 (.ia 1 7 9),s 12 (.ld1 11),m 5 12])
 (.reg [m 13 3,m 14 5,s 15 (.build [(.s []),(.b false)] [(0,1,14)]),f 16 (.bsl 2 1 [(.s []),(.b false)] [(0,2,15)]),e 17 (.app 2 24 13 16),m 3 17])))
 (.reg [s 18 (.bin .add 9 (k 1)),m 9 18])))))))
 (.seq (.reg [m 19 3,m 2 19])
 .ret)))) [.t 2]
def af249 : AFn := .code 34 (.seq (.reg [s 2 (.mv (.c .sn))])
 (.seq (.reg [m 6 0,c 7 (.call 248 [6]),m 3 7])
 (.seq (.seq (.reg [m 8 3,s 9 (.len 8),s 10 (.mv (k 0))])
 (.block 0 (.loop (.seq (.reg [s 11 (.bin .lss 10 9)])
 (.seq (.cond 11 .skip (.exit 0))
 (.seq (.block 1 (.seq (.reg [m 12 10,s 13 (.ia 2 8 10),s 14 (.ldn 2 13),f 5 (.alloc [(.s []),(.b false)]),m 4 12,st 2 5 14])
 (.reg [m 15 3,m 16 4,s 17 (.fa 0 5),s 18 (.ld1 17),s 19 (.bin .eql 18 (.c (.s [119]))),m 20 19,sg 21 20 false (.mv 3),sg 22 20 false (.len 21),sg 23 20 false (.bin .eql 22 (k 2)),sg 24 20 false (.mv 23),sg 25 24 true (.fa 0 5),sg 26 24 true (.ld1 25),sg 27 24 true (.bin .eql 26 (.c (.s [118]))),sg 28 20 false (.pick 24 27 (.c (.b false))),s 29 (.pick 20 (.c (.b true)) 28),s 30 (.ia 2 15 16),s 31 (.fa 1 30),st 1 31 29])))
 (.reg [s 32 (.bin .add 10 (k 1)),m 10 32])))))))
 (.seq (.reg [m 33 3,m 2 33])
 .ret)))) [.t 2]
def af250 : AFn := .code 8 (.seq (.reg [s 4 (.mv (.c .sn))])
 (.seq (.reg [m 5 0,m 6 1,c 7 (.call 309 [5,6,(k 0),(.c (.i .i64 (-1)))]),m 4 7])
 .ret)) [.t 4]
def af251 : AFn := .code 13 (.seq (.reg [f 2 (.box 0),s 4 (.mv (.c (.s []))),s 5 (.mv (.c (.b false)))])
 (.seq (.reg [m 6 1,s 7 (.fa 0 2),s 8 (.ld1 7),s 9 (.bin .add 8 (.c (.s [61]))),c 10 (.call 310 [6,9]),s 11 (.ext 10 0),s 12 (.ext 10 1),m 4 11,m 5 12])
 .ret)) [.t 4,.t 5]
def af253 : AFn := .code 20 (.seq (.reg [s 2 (.mv (k 0)),s 3 (.mv (.c (.b false)))])
 (.seq (.reg [m 7 0,c 8 (.call 311 [7,(k 10),(k 64)]),m 6 8,s 9 (.ext 6 0),s 10 (.ext 6 1),m 4 9,m 5 10])
 (.seq (.seq (.reg [m 11 5,s 12 (.nili true 11 (.c .nif)),m 13 12,sg 14 13 false (.mv 4),cg 15 13 false (.call 257 [14]),sg 16 13 false (.mv 0),sg 17 13 false (.bin .neq 15 16),s 18 (.pick 13 (.c (.b true)) 17)])
 (.cond 18 (.seq (.reg [s 2 (.mv (k 0)),s 3 (.mv (.c (.b false)))])
 .ret) .skip))
 (.seq (.reg [m 19 4,m 2 19,s 3 (.mv (.c (.b true)))])
 .ret)))) [.t 2,.t 3]
def af257 : AFn := .code 5 (.seq (.reg [s 2 (.mv (.c (.s [])))])
 (.seq (.reg [m 3 0,c 4 (.call 312 [3,(k 10)]),m 2 4])
 .ret)) [.t 2]
def af259 : AFn := .code 9 (.seq (.reg [s 4 (.mv (.c (.b false)))])
 (.seq (.reg [m 5 0,m 6 1,c 7 (.call 316 [5,6]),s 8 (.bin .geq 7 (k 0)),m 4 8])
 .ret)) [.t 4]
def af260 : AFn := .code 6 (.seq (.reg [f 1 (.box 0),s 2 (.mv (.c (.b false)))])
 (.seq (.reg [s 3 (.ldn 5 1),c 4 (.call 261 [3]),s 5 (.un .not 4),m 2 5])
 .ret)) [.t 2]
def af261 : AFn := .code 25 (.seq (.reg [f 1 (.box 0),s 2 (.mv (.c (.b false)))])
 (.seq (.seq (.reg [s 3 (.fa 0 1),s 4 (.ld1 3)])
 (.block 0 (.seq (.reg [s 6 (.bin .eql 4 (k 1)),m 5 6])
 (.cond 5 (.seq (.reg [s 7 (.fa 1 1),s 8 (.ldn 4 7),c 9 (.call 240 [8]),m 2 9])
 .ret) (.seq (.reg [s 11 (.bin .eql 4 (k 2)),m 10 11])
 (.cond 10 (.seq (.reg [s 12 (.fa 1 1),s 13 (.fa 0 12),s 14 (.ld1 13),c 15 (.call 302 [14]),m 16 15,sg 17 16 true (.fa 1 1),sg 18 16 true (.ldn 4 17),sg 19 16 true (.fa 1 1),sg 20 16 true (.fa 0 19),sg 21 16 true (.ld1 20),sg 22 16 true (.build [(i 0),(i 0),(i 0),(i 0)] [(0,1,21)]),sg 23 16 true (.cmpA [.i64,.i64,.i64,.i64] false 18 22),s 24 (.pick 16 23 (.c (.b false))),m 2 24])
 .ret) .skip))))))
 (.seq (.reg [s 2 (.mv (.c (.b false)))])
 .ret))) [.t 2]
def af262 : AFn := .code 27 (.seq (.reg [f 3 (.box 1),s 4 (.mv (.c .sn))])
 (.seq (.seq (.reg [s 7 (.fa 0 3),s 8 (.ld1 7),s 9 (.fa 1 3),s 10 (.ld1 9),s 11 (.fa 2 3),s 12 (.ld1 11),s 13 (.fa 3 3),s 14 (.ld1 13),f 15 (.bsl 1 4 [(i 0),(i 0),(i 0),(i 0)] [(0,1,8),(1,1,10),(2,1,12),(3,1,14)]),s 16 (.len 15),s 17 (.mv (k 0))])
 (.block 0 (.loop (.seq (.reg [s 18 (.bin .lss 17 16)])
 (.seq (.cond 18 .skip (.exit 0))
 (.seq (.block 1 (.seq (.reg [s 19 (.ia 1 15 17),s 20 (.ld1 19),m 6 20])
 (.reg [m 21 0,m 22 6,s 23 (.cvi .u64 22),c 24 (.call 115 [21,23,(k 4)]),m 0 24])))
 (.reg [s 25 (.bin .add 17 (k 1)),m 17 25])))))))
 (.seq (.reg [m 26 0,m 4 26])
 .ret))) [.t 4]
def af263 : AFn := .code 26 (.seq (.reg [s 4 (.mv (.c (.b false)))])
 (.seq (.seq (.reg [m 6 0,s 7 (.len 6),m 8 1,s 9 (.len 8),s 10 (.bin .neq 7 9)])
 (.cond 10 (.seq (.reg [s 4 (.mv (.c (.b false)))])
 .ret) .skip))
 (.seq (.seq (.reg [m 11 0,s 12 (.len 11),s 13 (.mv (k 0))])
 (.block 0 (.loop (.seq (.reg [s 14 (.bin .lss 13 12)])
 (.seq (.cond 14 .skip (.exit 0))
 (.seq (.block 1 (.seq (.reg [m 15 13,m 5 15])
 (.seq (.dreg 0 [.st 0 (m 16 0),
  .st 1 (m 17 5),
  .st 2 (s 18 (.ia 1 16 17)),
  .st 3 (s 19 (.ld1 18)),
  .st 4 (m 20 1),
  .st 5 (m 21 5),
  .st 6 (s 22 (.ia 1 20 21)),
  .st 7 (s 23 (.ld1 22)),
  .st 8 (s 24 (.bin .neq 19 23))])
 (.cond 24 (.seq (.reg [s 4 (.mv (.c (.b false)))])
 .ret) .skip))))
 (.reg [s 25 (.bin .add 13 (k 1)),m 13 25])))))))
 (.seq (.reg [s 4 (.mv (.c (.b true)))])
 .ret)))) [.t 4]
def af264 : AFn := .code 26 (.seq (.reg [s 4 (.mv (.c (.b false)))])
 (.seq (.seq (.reg [m 6 0,s 7 (.len 6),m 8 1,s 9 (.len 8),s 10 (.bin .neq 7 9)])
 (.cond 10 (.seq (.reg [s 4 (.mv (.c (.b false)))])
 .ret) .skip))
 (.seq (.seq (.reg [m 11 0,s 12 (.len 11),s 13 (.mv (k 0))])
 (.block 0 (.loop (.seq (.reg [s 14 (.bin .lss 13 12)])
 (.seq (.cond 14 .skip (.exit 0))
 (.seq (.block 1 (.seq (.reg [m 15 13,m 5 15])
 (.seq (.dreg 0 [.st 0 (m 16 0),
  .st 1 (m 17 5),
  .st 2 (s 18 (.ia 1 16 17)),
  .st 3 (s 19 (.ld1 18)),
  .st 4 (m 20 1),
  .st 5 (m 21 5),
  .st 6 (s 22 (.ia 1 20 21)),
  .st 7 (s 23 (.ld1 22)),
  .st 8 (s 24 (.bin .neq 19 23))])
 (.cond 24 (.seq (.reg [s 4 (.mv (.c (.b false)))])
 .ret) .skip))))
 (.reg [s 25 (.bin .add 13 (k 1)),m 13 25])))))))
 (.seq (.reg [s 4 (.mv (.c (.b true)))])
 .ret)))) [.t 4]
def af265 : AFn := .code 26 (.seq (.reg [s 4 (.mv (.c (.b false)))])
 (.seq (.seq (.reg [m 6 0,s 7 (.len 6),m 8 1,s 9 (.len 8),s 10 (.bin .neq 7 9)])
 (.cond 10 (.seq (.reg [s 4 (.mv (.c (.b false)))])
 .ret) .skip))
 (.seq (.seq (.reg [m 11 0,s 12 (.len 11),s 13 (.mv (k 0))])
 (.block 0 (.loop (.seq (.reg [s 14 (.bin .lss 13 12)])
 (.seq (.cond 14 .skip (.exit 0))
 (.seq (.block 1 (.seq (.reg [m 15 13,m 5 15])
 (.seq (.dreg 0 [.st 0 (m 16 0),
  .st 1 (m 17 5),
  .st 2 (s 18 (.ia 2 16 17)),
  .st 3 (s 19 (.ldn 2 18)),
  .st 4 (m 20 1),
  .st 5 (m 21 5),
  .st 6 (s 22 (.ia 2 20 21)),
  .st 7 (s 23 (.ldn 2 22)),
  .st 8 (s 24 (.cmpA [.i64,.i64] true 19 23))])
 (.cond 24 (.seq (.reg [s 4 (.mv (.c (.b false)))])
 .ret) .skip))))
 (.reg [s 25 (.bin .add 13 (k 1)),m 13 25])))))))
 (.seq (.reg [s 4 (.mv (.c (.b true)))])
 .ret)))) [.t 4]
def af266 : AFn := .code 26 (.seq (.reg [s 4 (.mv (.c (.b false)))])
 (.seq (.seq (.reg [m 6 0,s 7 (.len 6),m 8 1,s 9 (.len 8),s 10 (.bin .neq 7 9)])
 (.cond 10 (.seq (.reg [s 4 (.mv (.c (.b false)))])
 .ret) .skip))
 (.seq (.seq (.reg [m 11 0,s 12 (.len 11),s 13 (.mv (k 0))])
 (.block 0 (.loop (.seq (.reg [s 14 (.bin .lss 13 12)])
 (.seq (.cond 14 .skip (.exit 0))
 (.seq (.block 1 (.seq (.reg [m 15 13,m 5 15])
 (.seq (.dreg 0 [.st 0 (m 16 0),
  .st 1 (m 17 5),
  .st 2 (s 18 (.ia 5 16 17)),
  .st 3 (s 19 (.ldn 5 18)),
  .st 4 (m 20 1),
  .st 5 (m 21 5),
  .st 6 (s 22 (.ia 5 20 21)),
  .st 7 (s 23 (.ldn 5 22)),
  .st 8 (s 24 (.cmpA [.i64,.i64,.i64,.i64,.i64] true 19 23))])
 (.cond 24 (.seq (.reg [s 4 (.mv (.c (.b false)))])
 .ret) .skip))))
 (.reg [s 25 (.bin .add 13 (k 1)),m 13 25])))))))
 (.seq (.reg [s 4 (.mv (.c (.b true)))])
 .ret)))) [.t 4]
def af275 : AFn := .code 21 (.seq (.reg [f 4 (.alloc [(.i .u64 0),(i 0),(i 0),(i 0),(i 0)]),s 5 (.mv (.c (.b false)))])
 (.seq (.reg [m 7 1,s 8 (.build [(.i .u64 0),(i 0),(i 0),(i 0),(i 0)] [(0,1,7)]),f 6 (.alloc [(.i .u64 0),(i 0),(i 0),(i 0),(i 0)]),st 5 6 8])
 (.seq (.reg [m 9 0,s 10 (.nilc 9),s 11 (.fa 1 10),s 12 (.ld1 11),m 13 1,s 14 (.mkfn (.func 322) [] [6]),c 15 (.call 321 [12,13,14])])
 (.seq (.seq (.reg [s 16 (.fa 1 6),s 17 (.ld1 16),s 18 (.bin .eql 17 (k 0))])
 (.cond 18 (.seq (.reg [s 19 (.build [(.i .u64 0),(i 0),(i 0),(i 0),(i 0)] []),st 5 4 19,s 5 (.mv (.c (.b false)))])
 .ret) .skip))
 (.seq (.reg [s 20 (.ldn 5 6),st 5 4 20,s 5 (.mv (.c (.b true)))])
 .ret))))) [.cn 4 5,.t 5]
def af278 : AFn := .code 10 (.seq (.reg [f 1 (.box 0),s 2 (.mv (k 0))])
 (.seq (.block 0 (.seq (.reg [s 4 (.ldn 4 1),c 5 (.call 327 [4]),s 6 (.un .not 5),m 3 6])
 (.cond 3 (.seq (.reg [s 2 (.mv (k 1))])
 .ret) (.seq (.reg [s 8 (.ldn 4 1),c 9 (.call 328 [8]),m 7 9])
 (.cond 7 (.seq (.reg [s 2 (.mv (k 14))])
 .ret) .skip)))))
 (.seq (.reg [s 2 (.mv (k 0))])
 .ret))) [.t 2]
def af279 : AFn := .code 28 (.seq (.reg [f 3 (.box 1),s 4 (.mv (.c .sn)),s 5 (.mv (.c (.b false)))])
 (.seq (.reg [m 8 0,s 9 (.ldn 4 3),c 10 (.call 329 [8,9]),m 6 10])
 (.seq (.seq (.reg [m 11 6,s 12 (.bin .lss 11 (k 0))])
 (.cond 12 (.seq (.reg [s 4 (.mv (.c .sn)),s 5 (.mv (.c (.b false)))])
 .ret) .skip))
 (.seq (.reg [m 13 0,s 14 (.nilc 13),s 15 (.fa 2 14),s 16 (.ld1 15),m 17 6,s 18 (.ia 1 16 17),s 19 (.ld1 18),s 20 (.nilc 19),s 21 (.fa 4 20),s 22 (.ld1 21),c 23 (.call 330 [22]),m 7 23])
 (.seq (.reg [m 24 0,m 25 6,c 26 (.call 331 [24,25])])
 (.seq (.reg [m 27 7,m 4 27,s 5 (.mv (.c (.b true)))])
 .ret)))))) [.t 4,.t 5]
def af280 : AFn := .code 58 (.seq (.reg [f 2 (.box 0),s 4 (.mv (.c .sn)),s 5 (.mv (k 0))])
 (.seq (.reg [s 14 (.ldn 4 2),m 15 1,c 16 (.call 332 [14,15]),m 13 16,s 17 (.ext 13 0),s 18 (.ext 13 1),m 6 17,m 7 18])
 (.seq (.seq (.reg [m 19 7,s 20 (.bin .neq 19 (k 0)),m 21 20,sg 22 21 false (.mv 6),sg 23 21 false (.len 22),sg 24 21 false (.bin .eql 23 (k 0)),s 25 (.pick 21 (.c (.b true)) 24)])
 (.cond 25 (.seq (.reg [m 26 7,s 4 (.mv (.c .sn)),m 5 26])
 .ret) .skip))
 (.seq (.reg [s 8 (.mv (.c .sn))])
 (.seq (.seq (.reg [m 27 6,s 28 (.len 27),s 29 (.mv (k 0))])
 (.block 0 (.loop (.seq (.reg [s 30 (.bin .lss 29 28)])
 (.seq (.cond 30 .skip (.exit 0))
 (.seq (.block 1 (.seq (.reg [s 31 (.ia 1 27 29),s 32 (.ld1 31),m 10 32])
 (.seq (.reg [m 34 1,m 35 10,c 36 (.call 275 [34,35]),m 33 36,s 37 (.ext 33 0),s 38 (.ext 33 1),f 11 (.alloc [(.i .u64 0),(i 0),(i 0),(i 0),(i 0)]),st 5 11 37,m 12 38])
 (.dreg 1 [.st 0 (m 39 8),
  .st 1 (m 40 10),
  .st 2 (s 41 (.ldn 4 2)),
  .st 3 (m 42 10),
  .st 5 (s 44 (.fa 1 11)),
  .st 6 (s 45 (.ld1 44)),
  .st 7 (s 46 (.fa 2 11)),
  .st 8 (s 47 (.ld1 46)),
  .st 9 (s 48 (.fa 3 11)),
  .st 10 (s 49 (.ld1 48)),
  .st 11 (s 50 (.fa 4 11)),
  .st 12 (s 51 (.ld1 50)),
  .ef 4 (c 43 (.call 333 [41,42])) [] [s 45 (.ld1 44),s 47 (.ld1 46),s 49 (.ld1 48),s 51 (.ld1 50)],
  .st 13 (s 52 (.build [(.i .u64 0),.sn,(i 0),(i 0),(i 0),(i 0)] [(0,1,40),(1,1,43),(2,1,45),(3,1,47),(4,1,49),(5,1,51)])),
  .fl 14 (f 53 (.bsl 6 1 [(.i .u64 0),.sn,(i 0),(i 0),(i 0),(i 0)] [(0,6,52)])) 0,
  .ef 15 (e 54 (.app 6 64 39 53)) [0] [],
  .st 16 (m 8 54)]))))
 (.reg [s 55 (.bin .add 29 (k 1)),m 29 55])))))))
 (.seq (.reg [m 56 8,c 57 (.call 334 [56]),m 4 57,s 5 (.mv (k 0))])
 .ret)))))) [.t 4,.t 5]
def af281 : AFn := .code 74 (.seq (.reg [f 4 (.box 1),s 6 (.mv (.c (.b false)))])
 (.seq (.seq (.reg [m 8 0,s 9 (.nilc 8),s 10 (.fa 0 9),s 11 (.ld1 10),s 12 (.bin .eql 11 (k 0)),m 13 12,sg 14 13 false (.ldn 4 4),cg 15 13 false (.call 278 [14]),sg 16 13 false (.bin .neq 15 (k 0)),s 17 (.pick 13 (.c (.b true)) 16)])
 (.cond 17 (.seq (.reg [s 6 (.mv (.c (.b false)))])
 .ret) .skip))
 (.seq (.seq (.reg [m 18 0,s 19 (.ldn 4 4),c 20 (.call 329 [18,19]),m 7 20])
 (.seq (.reg [m 21 7,s 22 (.bin .geq 21 (k 0))])
 (.cond 22 (.seq (.dreg 0 [.st 0 (m 23 0),
  .st 1 (s 24 (.nilc 23)),
  .st 2 (s 25 (.fa 2 24)),
  .st 3 (s 26 (.ld1 25)),
  .st 4 (m 27 7),
  .st 5 (s 28 (.ia 1 26 27)),
  .st 6 (s 29 (.ld1 28)),
  .st 7 (m 30 2),
  .ef 8 (c 31 (.call 330 [30])) [] [s 26 (.ld1 25),s 29 (.ld1 28)],
  .st 9 (s 32 (.nilc 29)),
  .st 10 (s 33 (.fa 4 32)),
  .ef 11 (st 1 33 31) [] []])
 (.seq (.reg [m 34 0,m 35 7,c 36 (.call 331 [34,35])])
 (.seq (.reg [s 6 (.mv (.c (.b true)))])
 .ret))) .skip)))
 (.seq (.reg [m 37 0,s 38 (.nilc 37),s 39 (.fa 1 38),s 40 (.ld1 39),s 41 (.bin .add 40 (k 1)),s 42 (.nilc 37),s 43 (.fa 1 42),st 1 43 41])
 (.seq (.dreg 1 [.st 0 (m 44 0),
  .st 1 (s 45 (.nilc 44)),
  .st 2 (s 46 (.fa 2 45)),
  .st 3 (s 47 (.mkif 434 46)),
  .st 4 (s 48 (.ldn 4 4)),
  .st 5 (m 49 2),
  .st 7 (m 51 0),
  .st 8 (s 52 (.nilc 51)),
  .st 9 (s 53 (.fa 1 52)),
  .st 10 (s 54 (.ld1 53)),
  .ef 6 (c 50 (.call 330 [49])) [] [s 48 (.ldn 4 4),s 54 (.ld1 53)],
  .st 11 (s 55 (.build [(i 0),(i 0),(i 0),(i 0),.sn,(i 0)] [(0,4,48),(4,1,50),(5,1,54)])),
  .fl 12 (f 56 (.box 55)) 0,
  .st 13 (s 57 (.mkif 431 56)),
  .ef 14 (c 58 (.call 81 [47,57])) [0] []])
 (.seq (.seq (.dreg 0 [.st 0 (m 59 0),
  .st 1 (s 60 (.nilc 59)),
  .st 2 (s 61 (.fa 2 60)),
  .st 3 (s 62 (.ld1 61)),
  .st 4 (s 63 (.len 62)),
  .st 5 (m 64 0),
  .st 6 (s 65 (.nilc 64)),
  .st 7 (s 66 (.fa 0 65)),
  .st 8 (s 67 (.ld1 66)),
  .st 9 (s 68 (.bin .gtr 63 67))])
 (.cond 68 (.reg [m 69 0,s 70 (.nilc 69),s 71 (.fa 2 70),s 72 (.mkif 434 71),c 73 (.call 44 [72])]) .skip))
 (.seq (.reg [s 6 (.mv (.c (.b true)))])
 .ret))))))) [.t 6]
def af286 : AFn := .code 12 (.seq (.reg [s 2 (.mv (k 0))])
 (.seq (.dreg 0 [.st 0 (m 3 0),
  .st 1 (s 4 (.nilc 3)),
  .st 2 (s 5 (.fa 2 4)),
  .st 3 (s 6 (.ld1 5)),
  .st 4 (m 7 0),
  .st 5 (s 8 (.nilc 7)),
  .st 6 (s 9 (.fa 7 8)),
  .st 7 (s 10 (.ld1 9)),
  .st 8 (s 11 (.bin .sub 6 10)),
  .st 9 (m 2 11)])
 .ret)) [.t 2]
def af288 : AFn := .code 79 (.seq (.reg [s 4 (.mv (k 0))])
 (.seq (.seq (.reg [m 9 0,s 10 (.nilc 9),s 11 (.fa 8 10),s 12 (.ld1 11)])
 (.cond 12 (.seq (.reg [s 4 (.mv (k 9))])
 .ret) .skip))
 (.seq (.reg [m 14 1,c 15 (.call 191 [14]),m 13 15,s 16 (.ext 13 0),s 17 (.ext 13 1),m 5 16,m 6 17])
 (.seq (.seq (.reg [m 18 6,s 19 (.bin .neq 18 (k 0))])
 (.cond 19 (.seq (.reg [m 20 6,m 4 20])
 .ret) .skip))
 (.seq (.reg [m 22 0,s 23 (.nilc 22),s 24 (.fa 4 23),s 25 (.ld1 24),m 26 5,c 27 (.call 236 [25,26]),m 21 27,s 28 (.ext 21 0),s 29 (.ext 21 1),m 7 28,m 6 29])
 (.seq (.block 0 (.seq (.reg [m 31 6,s 32 (.bin .neq 31 (k 0)),m 30 32])
 (.cond 30 (.seq (.reg [m 33 6,m 4 33])
 .ret) (.seq (.reg [m 35 0,s 36 (.nilc 35),s 37 (.fa 6 36),s 38 (.ld1 37),m 39 1,c 40 (.call 235 [38,39]),s 41 (.len 40),s 42 (.bin .gtr 41 (k 2000)),m 34 42])
 (.cond 34 (.seq (.reg [s 4 (.mv (k 7))])
 .ret) (.seq (.reg [m 44 7,s 45 (.len 44),m 46 0,c 47 (.call 286 [46]),s 48 (.bin .gtr 45 47),m 49 48,sg 50 49 false (.mv 0),sg 51 49 false (.nilc 50),sg 52 49 false (.fa 5 51),sg 53 49 false (.ld1 52),sg 54 49 false (.bin .geq 53 (.c (.i .u64 4611686018427387904))),s 55 (.pick 49 (.c (.b true)) 54),m 43 55])
 (.cond 43 (.seq (.reg [s 4 (.mv (k 12))])
 .ret) .skip)))))))
 (.seq (.seq (.dreg 0 [.st 0 (m 56 0),
  .st 1 (s 57 (.nilc 56)),
  .st 2 (s 58 (.fa 0 57)),
  .st 3 (s 59 (.ld1 58)),
  .st 4 (m 60 0),
  .st 6 (m 62 0),
  .st 7 (s 63 (.nilc 62)),
  .st 8 (s 64 (.fa 7 63)),
  .st 9 (s 65 (.ld1 64)),
  .st 11 (m 67 7),
  .ef 5 (c 61 (.call 94 [60])) [] [s 59 (.ld1 58),s 65 (.ld1 64)],
  .st 10 (s 66 (.bin .add 61 65)),
  .ef 12 (c 68 (.call 169 [59,66,67])) [] [],
  .st 13 (m 8 68)])
 (.seq (.reg [m 69 8,s 70 (.bin .neq 69 (k 0))])
 (.cond 70 (.seq (.reg [m 71 0,m 72 8,c 73 (.call 335 [71,72]),m 4 73])
 .ret) .skip)))
 (.seq (.reg [m 74 0,m 75 1,m 76 5,s 77 (.len 76),c 78 (.call 167 [74,75,77])])
 (.seq (.reg [s 4 (.mv (k 0))])
 .ret))))))))) [.t 4]
def af289 : AFn := .code 11 (.seq (.reg [s 4 (.mv (k 0)),s 5 (.mv (.c (.b false)))])
 (.seq (.reg [m 6 0,m 7 1,c 8 (.call 344 [6,7,(.c (.f (.func 345) [] []))]),s 9 (.ext 8 0),s 10 (.ext 8 1),m 4 9,m 5 10])
 .ret)) [.t 4,.t 5]
def af290 : AFn := .code 36 (.seq (.reg [f 4 (.box 1),f 5 (.box 2),s 6 (.mv (k 0))])
 (.seq (.reg [s 9 (.mkfn (.func 346) [] [4,5]),m 7 9])
 (.seq (.reg [m 10 0,s 11 (.nilc 10),s 12 (.fa 2 11),s 13 (.ld1 12),s 14 (.len 13),m 8 14])
 (.seq (.reg [m 15 0,m 16 0,s 17 (.nilc 16),s 18 (.fa 2 17),s 19 (.ld1 18),m 20 7,c 21 (.call 348 [19,20]),s 22 (.nilc 15),s 23 (.fa 2 22),st 1 23 21])
 (.seq (.reg [m 24 0,s 25 (.nilc 24),s 26 (.fa 2 25),s 27 (.mkif 434 26),c 28 (.call 349 [27])])
 (.seq (.reg [m 29 8,m 30 0,s 31 (.nilc 30),s 32 (.fa 2 31),s 33 (.ld1 32),s 34 (.len 33),s 35 (.bin .sub 29 34),m 6 35])
 .ret)))))) [.t 6]
def af291 : AFn := .code 27 (.seq (.reg [f 4 (.alloc [(i 0),(i 0),(i 0),(i 0)]),s 5 (.mv (.c (.b false)))])
 (.seq (.reg [m 9 0,s 10 (.nilc 9),s 11 (.fa 6 10),s 12 (.ld1 11),m 13 1,c 14 (.call 289 [12,13]),m 8 14,s 15 (.ext 8 0),s 16 (.ext 8 1),m 6 15,m 7 16])
 (.seq (.seq (.reg [m 17 7,s 18 (.un .not 17)])
 (.cond 18 (.seq (.reg [s 19 (.build [(i 0),(i 0),(i 0),(i 0)] []),st 4 4 19,s 5 (.mv (.c (.b false)))])
 .ret) .skip))
 (.seq (.reg [m 20 0,s 21 (.nilc 20),s 22 (.fa 6 21),s 23 (.ld1 22),m 24 6,s 25 (.ia 4 23 24),s 26 (.ldn 4 25),st 4 4 26,s 5 (.mv (.c (.b true)))])
 .ret)))) [.cn 4 4,.t 5]
def af294 : AFn := .code 19 (.seq (.reg [f 1 (.box 0),s 2 (.mv (.c (.b false)))])
 (.seq (.dreg 0 [.st 0 (s 3 (.ldn 4 1)),
  .ef 1 (c 4 (.call 219 [3])) [] [],
  .st 2 (m 5 4),
  .st 3 (sg 6 5 true (.fa 3 1)),
  .st 4 (sg 7 5 true (.ld1 6)),
  .st 5 (sg 8 5 true (.bin .sub (k 12) 7)),
  .st 8 (sg 11 5 true (.fa 0 1)),
  .st 9 (sg 12 5 true (.ld1 11)),
  .st 10 (sg 13 5 true (.bin .sub (k 18) 12)),
  .st 11 (sg 14 5 true (.bin .mul (k 2) 13)),
  .ef 6 (cg 9 5 true (.call 106 [8])) [] [sg 12 5 true (.ld1 11)],
  .st 7 (sg 10 5 true (.bin .mul (k 169) 9)),
  .ef 12 (cg 15 5 true (.call 151 [14])) [] [],
  .st 13 (sg 16 5 true (.bin .mul (k 16) 15)),
  .st 14 (sg 17 5 true (.bin .lss 10 16)),
  .st 15 (s 18 (.pick 5 17 (.c (.b false)))),
  .st 16 (m 2 18)])
 .ret)) [.t 2]
def af295 : AFn := .code 19 (.seq (.reg [s 4 (.mv (.c (.b false)))])
 (.seq (.reg [m 5 0,s 6 (.bin .lss 5 (.c (.i .i64 (-2147483648)))),m 7 6,sg 8 7 false (.mv 0),sg 9 7 false (.bin .gtr 8 (k 2147483648)),s 10 (.pick 7 (.c (.b true)) 9),m 11 10,sg 12 11 false (.mv 1),sg 13 11 false (.bin .lss 12 (.c (.i .i64 (-2147483648)))),s 14 (.pick 11 (.c (.b true)) 13),m 15 14,sg 16 15 false (.mv 1),sg 17 15 false (.bin .gtr 16 (k 2147483648)),s 18 (.pick 15 (.c (.b true)) 17),m 4 18])
 .ret)) [.t 4]
def af296 : AFn := .code 39 (.seq (.reg [f 4 (.box 0),f 5 (.box 1),s 8 (.mv (k 0))])
 (.seq (.reg [s 11 (.iaa 2 1 5 (k 0)),s 12 (.ld1 11),s 13 (.iaa 2 1 4 (k 0)),s 14 (.ld1 13),s 15 (.bin .sub 12 14),m 16 3,s 17 (.iaa 2 1 4 (k 1)),s 18 (.ld1 17),s 19 (.bin .sub 16 18),c 20 (.call 174 [15,19]),f 9 (.alloc [(.i .u64 0),(.i .u64 0)]),st 2 9 20])
 (.seq (.reg [s 21 (.iaa 2 1 5 (k 1)),s 22 (.ld1 21),s 23 (.iaa 2 1 4 (k 1)),s 24 (.ld1 23),s 25 (.bin .sub 22 24),m 26 2,s 27 (.iaa 2 1 4 (k 0)),s 28 (.ld1 27),s 29 (.bin .sub 26 28),c 30 (.call 174 [25,29]),f 10 (.alloc [(.i .u64 0),(.i .u64 0)]),st 2 10 30])
 (.seq (.block 0 (.seq (.reg [s 32 (.ldn 2 9),s 33 (.ldn 2 10),c 34 (.call 350 [32,33]),m 31 34])
 (.cond 31 (.seq (.reg [s 8 (.mv (.c (.i .i64 (-1))))])
 .ret) (.seq (.reg [s 36 (.ldn 2 10),s 37 (.ldn 2 9),c 38 (.call 350 [36,37]),m 35 38])
 (.cond 35 (.seq (.reg [s 8 (.mv (k 1))])
 .ret) .skip)))))
 (.seq (.reg [s 8 (.mv (k 0))])
 .ret))))) [.t 8]
def af298 : AFn := .code 46 (.seq (.reg [s 4 (.mv (k 0))])
 (.seq (.seq (.reg [m 8 0,s 9 (.len 8),s 10 (.bin .eql 9 (k 0))])
 (.cond 10 (.seq (.reg [s 4 (.mv (k 0))])
 .ret) .skip))
 (.seq (.dreg 0 [.st 0 (m 11 0),
  .st 1 (m 12 1),
  .st 2 (s 13 (.ia 2 11 (k 0))),
  .st 3 (s 14 (.iaa 2 1 13 12)),
  .st 4 (s 15 (.ld1 14)),
  .st 5 (m 16 0),
  .st 6 (m 17 1),
  .st 7 (s 18 (.ia 2 16 (k 0))),
  .st 8 (s 19 (.iaa 2 1 18 17)),
  .st 9 (s 20 (.ld1 19)),
  .st 10 (m 5 15),
  .st 11 (m 6 20)])
 (.seq (.seq (.reg [s 7 (.mv (k 0))])
 (.block 0 (.loop (.seq (.seq (.reg [m 21 7,m 22 0,s 23 (.len 22),s 24 (.bin .lss 21 23)])
 (.cond 24 .skip (.exit 0)))
 (.seq (.block 1 (.dreg 0 [.st 0 (m 27 5),
  .st 1 (m 28 0),
  .st 2 (m 29 7),
  .st 3 (m 30 1),
  .st 4 (s 31 (.ia 2 28 29)),
  .st 5 (s 32 (.iaa 2 1 31 30)),
  .st 6 (s 33 (.ld1 32)),
  .st 7 (s 34 (.mn 27 33)),
  .st 8 (m 35 6),
  .st 9 (m 36 0),
  .st 10 (m 37 7),
  .st 11 (m 38 1),
  .st 12 (s 39 (.ia 2 36 37)),
  .st 13 (s 40 (.iaa 2 1 39 38)),
  .st 14 (s 41 (.ld1 40)),
  .st 15 (s 42 (.mx 35 41)),
  .st 16 (m 5 34),
  .st 17 (m 6 42)]))
 (.reg [m 25 7,s 26 (.bin .add 25 (k 1)),m 7 26]))))))
 (.seq (.reg [m 43 6,m 44 5,s 45 (.bin .sub 43 44),m 4 45])
 .ret))))) [.t 4]
def af299 : AFn := .code 95 (.seq (.reg [s 6 (.mv (.c .sn))])
 (.seq (.reg [m 10 0,m 11 1,s 12 (.slc 4 10 (some 11) none none)])
 (.seq (.reg [m 13 2,s 14 (.len 13),m 7 14])
 (.seq (.seq (.reg [m 15 7,s 16 (.bin .eql 15 (k 0))])
 (.cond 16 (.seq (.reg [m 17 0,m 6 17])
 .ret) .skip))
 (.seq (.reg [m 18 0,s 19 (.len 18),m 8 19])
 (.seq (.seq (.reg [m 20 1,m 21 8,s 22 (.bin .eql 20 21)])
 (.cond 22 (.seq (.reg [m 23 0,m 24 2,e 25 (.app 4 32 23 24),m 6 25])
 .ret) .skip))
 (.seq (.seq .bad
 (.cond 31 (.seq .bad
 (.seq (.reg [m 41 9,m 42 1,s 43 (.slc 4 41 (some 42) none none),m 44 2,e 45 (.cpy 4 43 44)])
 (.seq (.dreg 0 [.st 0 (m 46 9),
  .st 1 (m 47 1),
  .st 2 (m 48 7),
  .st 3 (s 49 (.bin .add 47 48)),
  .st 4 (s 50 (.slc 4 46 (some 49) none none)),
  .st 5 (m 51 0),
  .st 6 (m 52 1),
  .st 7 (s 53 (.slc 4 51 (some 52) none none)),
  .ef 8 (e 54 (.cpy 4 50 53)) [] []])
 (.seq (.reg [m 55 9,m 6 55])
 .ret)))) .skip))
 (.seq (.reg [m 56 0,m 57 8,m 58 7,s 59 (.bin .add 57 58),s 60 (.slc 4 56 none (some 59) none),m 0 60])
 (.seq (.seq (.reg [m 61 2,m 62 0,m 63 1,m 64 7,s 65 (.bin .add 63 64),s 66 (.slc 4 62 (some 65) none none),c 67 (.call 351 [61,66]),s 68 (.un .not 67)])
 (.cond 68 (.seq (.dreg 0 [.st 0 (m 69 0),
  .st 1 (m 70 1),
  .st 2 (m 71 7),
  .st 3 (s 72 (.bin .add 70 71)),
  .st 4 (s 73 (.slc 4 69 (some 72) none none)),
  .st 5 (m 74 0),
  .st 6 (m 75 1),
  .st 7 (s 76 (.slc 4 74 (some 75) none none)),
  .ef 8 (e 77 (.cpy 4 73 76)) [] []])
 (.seq (.reg [m 78 0,m 79 1,s 80 (.slc 4 78 (some 79) none none),m 81 2,e 82 (.cpy 4 80 81)])
 (.seq (.reg [m 83 0,m 6 83])
 .ret))) .skip))
 (.seq (.reg [m 84 0,m 85 8,s 86 (.slc 4 84 (some 85) none none),m 87 2,e 88 (.cpy 4 86 87)])
 (.seq (.reg [m 89 0,m 90 1,s 91 (.slc 4 89 (some 90) none none),m 92 7,c 93 (.call 352 [91,92])])
 (.seq (.reg [m 94 0,m 6 94])
 .ret)))))))))))) [.t 6]
def af301 : AFn := .code 9 (.seq (.reg [s 2 (.mv (.c (.b false)))])
 (.seq (.reg [m 3 0,s 4 (.bin .geq 3 (k 0)),m 5 4,sg 6 5 true (.mv 0),sg 7 5 true (.bin .lss 6 (k 1073741824)),s 8 (.pick 5 7 (.c (.b false))),m 2 8])
 .ret)) [.t 2]
def af302 : AFn := .code 9 (.seq (.reg [s 2 (.mv (.c (.b false)))])
 (.seq (.reg [m 3 0,s 4 (.bin .geq 3 (k 1)),m 5 4,sg 6 5 true (.mv 0),sg 7 5 true (.bin .leq 6 (k 2147483648)),s 8 (.pick 5 7 (.c (.b false))),m 2 8])
 .ret)) [.t 2]
def af304 : AFn := .code 16 (.seq (.reg [f 2 (.box 0),f 3 (.box 1),s 4 (.mv (k 0))])
 (.seq (.reg [s 6 (.ld1 2),s 7 (.nilc 6),s 8 (.fa 0 7),s 9 (.ld1 8),s 10 (.len 9),s 11 (.mkfn (.func 354) [] [3,2]),c 12 (.call 353 [10,11]),m 5 12])
 (.seq (.reg [m 13 5,s 14 (.bin .sub 13 (k 1)),s 15 (.mx 14 (k 0)),m 4 15])
 .ret))) [.t 4]
def af305 : AFn := .code 24 (.seq (.reg [f 2 (.box 0),f 3 (.box 1),s 4 (.mv (k 0)),s 5 (.mv (.c (.b false)))])
 (.seq (.reg [s 7 (.ld1 2),s 8 (.len 7),s 9 (.mkfn (.func 356) [] [2,3]),c 10 (.call 353 [8,9]),m 6 10])
 (.seq (.dreg 0 [.st 0 (m 11 6),
  .st 1 (m 12 6),
  .st 2 (s 13 (.ld1 2)),
  .st 3 (s 14 (.len 13)),
  .st 4 (s 15 (.bin .lss 12 14)),
  .st 5 (m 16 15),
  .st 6 (sg 17 16 true (.ld1 2)),
  .st 7 (sg 18 16 true (.mv 6)),
  .st 8 (sg 19 16 true (.ia 3 17 18)),
  .st 9 (sg 20 16 true (.ldn 3 19)),
  .st 10 (sg 21 16 true (.ldn 3 3)),
  .st 11 (sg 22 16 true (.cmpA [.u64,.i64,.i64] false 20 21)),
  .st 12 (s 23 (.pick 16 22 (.c (.b false)))),
  .st 13 (m 4 11),
  .st 14 (m 5 23)])
 .ret))) [.t 4,.t 5]
def af307 : AFn := .code 9 (.seq (.reg [f 2 (.alloc [(.i .u64 0),(.i .u64 0)])])
 (.seq (.reg [m 3 0,s 4 (.bin .shr 3 (.c (.i .u64 63))),s 5 (.cvi .u64 4),m 6 0,s 7 (.cvi .u64 6),s 8 (.build [(.i .u64 0),(.i .u64 0)] [(0,1,5),(1,1,7)]),st 2 2 8])
 .ret)) [.cn 2 2]
def af309 : AFn := .code 66 (.seq (.reg [s 8 (.mv (.c .sn))])
 (.seq (.seq (.reg [m 12 3,s 13 (.bin .eql 12 (k 0))])
 (.cond 13 (.seq (.reg [s 8 (.mv (.c .sn))])
 .ret) .skip))
 (.seq (.seq (.reg [m 14 1,s 15 (.bin .eql 14 (.c (.s [])))])
 (.cond 15 (.seq (.reg [m 16 0,m 17 3,c 18 (.call 357 [16,17]),m 8 18])
 .ret) .skip))
 (.seq (.seq (.reg [m 19 3,s 20 (.bin .lss 19 (k 0))])
 (.cond 20 (.reg [m 21 0,m 22 1,c 23 (.call 358 [21,22]),s 24 (.bin .add 23 (k 1)),m 3 24]) .skip))
 (.seq (.reg [m 25 3,m 26 0,s 27 (.lens 26),s 28 (.bin .add 27 (k 1)),s 29 (.mn 25 28),m 3 29])
 (.seq (.reg [m 30 3,f 31 (.mks 16 (.s []) 30),m 9 31])
 (.seq (.reg [m 32 3,s 33 (.bin .sub 32 (k 1)),m 3 33])
 (.seq (.reg [s 10 (.mv (k 0))])
 (.seq (.block 0 (.loop (.seq (.seq (.reg [m 34 10,m 35 3,s 36 (.bin .lss 34 35)])
 (.cond 36 .skip (.exit 0)))
 (.block 1 (.seq (.reg [m 37 0,m 38 1,c 39 (.call 359 [37,38]),m 11 39])
 (.seq (.seq (.reg [m 40 11,s 41 (.bin .lss 40 (k 0))])
 (.cond 41 (.exit 0) .skip))
 (.seq (.reg [m 42 9,m 43 10,m 44 0,m 45 11,m 46 2,s 47 (.bin .add 45 46),s 48 (.sls 44 none (some 47)),s 49 (.ia 1 42 43),st 1 49 48])
 (.seq (.reg [m 50 0,m 51 11,m 52 1,s 53 (.lens 52),s 54 (.bin .add 51 53),s 55 (.sls 50 (some 54) none),m 0 55])
 (.reg [m 56 10,s 57 (.bin .add 56 (k 1)),m 10 57])))))))))
 (.seq (.reg [m 58 9,m 59 10,m 60 0,s 61 (.ia 1 58 59),st 1 61 60])
 (.seq (.reg [m 62 9,m 63 10,s 64 (.bin .add 63 (k 1)),s 65 (.slc 1 62 none (some 64) none),m 8 65])
 .ret))))))))))) [.t 8]
def af310 : AFn := .code 11 (.seq (.reg [s 4 (.mv (.c (.s []))),s 5 (.mv (.c (.b false)))])
 (.seq (.reg [m 6 0,m 7 1,c 8 (.call 360 [6,7]),s 9 (.ext 8 0),s 10 (.ext 8 1),m 4 9,m 5 10])
 .ret)) [.t 4,.t 5]
def af311 : AFn := .code 25 (.seq (.reg [s 6 (.mv (k 0)),s 7 (.mv (.c .nif))])
 (.seq (.reg [m 10 0,m 11 1,m 12 2,c 13 (.call 361 [10,11,12]),m 9 13,s 14 (.ext 9 0),s 15 (.ext 9 1),m 8 14,m 7 15])
 (.seq (.seq (.reg [m 16 7,s 17 (.nili true 16 (.c .nif))])
 (.cond 17 (.seq (.reg [m 18 8,m 19 0,m 20 1,m 21 2,m 22 7,c 23 (.call 362 [(.c (.s [80,97,114,115,101,73,110,116])),19,20,21,22]),m 6 18,m 7 23])
 .ret) .skip))
 (.seq (.reg [m 24 8,m 6 24,s 7 (.mv (.c .nif))])
 .ret)))) [.t 6,.t 7]
def af312 : AFn := .code 8 (.seq (.reg [s 4 (.mv (.c (.s [])))])
 (.seq (.reg [m 5 0,m 6 1,c 7 (.call 363 [5,6]),m 4 7])
 .ret)) [.t 4]
def af313 : AFn := .code 25 (.seq (.reg [m 4 0,c 5 (.call 364 [4])])
 (.seq (.seq (.reg [m 6 1,s 7 (.bin .lss 6 (k 0))])
 (.cond 7 .bad .skip))
 (.seq .bad
 (.cond 21 (.reg [m 22 0,m 23 1,c 24 (.call 365 [22,23])]) .skip)))) []
def af314 : AFn := .code 19 (.seq (.reg [s 4 (.mv (k 0)),s 5 (.mv (.c .nif))])
 (.seq (.reg [m 6 0,c 7 (.call 364 [6])])
 (.seq (.reg [m 8 0,m 9 0,s 10 (.nilc 9),s 11 (.fa 1 10),s 12 (.ld1 11),m 13 1,e 14 (.apps 12 13),s 15 (.nilc 8),s 16 (.fa 1 15),st 1 16 14])
 (.seq (.reg [m 17 1,s 18 (.lens 17),m 4 18,s 5 (.mv (.c .nif))])
 .ret)))) [.t 4,.t 5]
def af315 : AFn := .code 14 (.seq (.reg [s 2 (.mv (.c (.s [])))])
 (.seq .bad
 .ret)) [.t 2]
def af316 : AFn := .code 19 (.seq (.reg [s 4 (.mv (k 0))])
 (.seq (.seq (.reg [m 6 0,s 7 (.len 6),s 8 (.mv (k 0))])
 (.block 0 (.loop (.seq (.reg [s 9 (.bin .lss 8 7)])
 (.seq (.cond 9 .skip (.exit 0))
 (.seq (.block 1 (.seq (.reg [m 10 8,m 5 10])
 (.seq (.reg [m 11 1,m 12 0,m 13 5,s 14 (.ia 5 12 13),s 15 (.ldn 5 14),c 16 (.dyn 11 [15])])
 (.cond 16 (.seq (.reg [m 17 5,m 4 17])
 .ret) .skip))))
 (.reg [s 18 (.bin .add 8 (k 1)),m 8 18])))))))
 (.seq (.reg [s 4 (.mv (.c (.i .i64 (-1))))])
 .ret))) [.t 4]
def af321 : AFn := .code 14 (.seq (.reg [f 4 (.box 1),f 5 (.box 2)])
 (.seq (.reg [m 7 0,s 8 (.mkfn (.func 369) [7] []),m 6 8])
 (.reg [m 9 6,s 10 (.ld1 4),s 11 (.build [(.i .u64 0),(i 0),(i 0)] [(0,1,10),(1,1,(.c (.i .i64 (-9223372036854775808)))),(2,1,(.c (.i .i64 (-9223372036854775808))))]),s 12 (.mkfn (.func 370) [] [4,5]),c 13 (.dyn 9 [11,12])]))) []
def af322 : AFn := .code 22 (.seq (.reg [f 2 (.box 0)])
 (.seq (.seq (.reg [s 3 (.fa 1 1),s 4 (.ld1 3),s 5 (.bin .eql 4 (k 0))])
 (.cond 5 (.reg [s 6 (.fa 1 2),s 7 (.ld1 6),s 8 (.fa 3 1),st 1 8 7]) .skip))
 (.seq (.reg [s 9 (.fa 1 1),s 10 (.ld1 9),s 11 (.bin .add 10 (k 1)),s 12 (.fa 1 1),st 1 12 11])
 (.seq (.reg [s 13 (.fa 2 1),s 14 (.ld1 13),s 15 (.fa 1 2),s 16 (.ld1 15),s 17 (.bin .add 14 16),s 18 (.fa 2 1),st 1 18 17])
 (.reg [s 19 (.fa 1 2),s 20 (.ld1 19),s 21 (.fa 4 1),st 1 21 20]))))) []
def af324 : AFn := .code 31 (.seq (.reg [s 4 (.mv (.c .sn))])
 (.seq (.seq (.reg [m 7 1,s 8 (.bin .lss 7 (k 0)),m 9 8,sg 10 9 false (.mv 1),sg 11 9 false (.bin .geq 10 (k 13)),s 12 (.pick 9 (.c (.b true)) 11)])
 (.cond 12 (.seq (.reg [s 4 (.mv (.c .sn))])
 .ret) .skip))
 (.seq (.reg [s 5 (.mv (.c .sn))])
 (.seq (.seq (.reg [m 13 0,m 14 1,s 15 (.nilc 13),s 16 (.fa 2 15),s 17 (.iaa 13 1 16 14),s 18 (.ld1 17),e 19 (.rng 18)])
 (.block 0 (.loop (.seq (.reg [e 20 (.nxt 19),s 21 (.ext 20 0)])
 (.seq (.cond 21 .skip (.exit 0))
 (.block 1 (.seq (.reg [s 22 (.entry 19),s 23 (.ext 22 0),m 6 23])
 (.reg [m 24 5,m 25 6,f 26 (.bsl 1 1 [(.i .u64 0)] [(0,1,25)]),e 27 (.app 1 8 24 26),m 5 27]))))))))
 (.seq (.reg [m 28 5,c 29 (.call 45 [28])])
 (.seq (.reg [m 30 5,m 4 30])
 .ret)))))) [.t 4]
def af327 : AFn := .code 46 (.seq (.reg [f 1 (.box 0),s 2 (.mv (.c (.b false)))])
 (.seq (.seq (.reg [s 4 (.fa 0 1),s 5 (.ld1 4),s 6 (.bin .lss 5 (k 0)),m 7 6,sg 8 7 false (.fa 0 1),sg 9 7 false (.ld1 8),sg 10 7 false (.bin .gtr 9 (k 18)),s 11 (.pick 7 (.c (.b true)) 10),m 12 11,sg 13 12 false (.fa 3 1),sg 14 12 false (.ld1 13),sg 15 12 false (.bin .lss 14 (k 0)),s 16 (.pick 12 (.c (.b true)) 15),m 17 16,sg 18 17 false (.fa 3 1),sg 19 17 false (.ld1 18),sg 20 17 false (.bin .gtr 19 (k 12)),s 21 (.pick 17 (.c (.b true)) 20)])
 (.cond 21 (.seq (.reg [s 2 (.mv (.c (.b false)))])
 .ret) .skip))
 (.seq (.reg [s 22 (.fa 0 1),s 23 (.ld1 22),s 24 (.cvi .u64 23),s 25 (.bin .shl (k 1) 24),m 3 25])
 (.seq (.reg [s 26 (.fa 1 1),s 27 (.ld1 26),s 28 (.bin .geq 27 (k 0)),m 29 28,sg 30 29 true (.fa 1 1),sg 31 29 true (.ld1 30),sg 32 29 true (.mv 3),sg 33 29 true (.bin .lss 31 32),s 34 (.pick 29 33 (.c (.b false))),m 35 34,sg 36 35 true (.fa 2 1),sg 37 35 true (.ld1 36),sg 38 35 true (.bin .geq 37 (k 0)),s 39 (.pick 35 38 (.c (.b false))),m 40 39,sg 41 40 true (.fa 2 1),sg 42 40 true (.ld1 41),sg 43 40 true (.mv 3),sg 44 40 true (.bin .lss 42 43),s 45 (.pick 40 44 (.c (.b false))),m 2 45])
 .ret)))) [.t 2]
def af328 : AFn := .code 23 (.seq (.reg [f 1 (.box 0),s 2 (.mv (.c (.b false)))])
 (.seq (.reg [s 6 (.fa 3 1),s 7 (.ld1 6),c 8 (.call 373 [7]),m 5 8,s 9 (.ext 5 0),s 10 (.ext 5 1),m 3 9,m 4 10])
 (.seq (.dreg 0 [.st 0 (s 11 (.ldn 4 1)),
  .ef 1 (c 12 (.call 327 [11])) [] [],
  .st 2 (m 13 12),
  .st 3 (sg 14 13 true (.mv 3)),
  .st 4 (sg 15 13 true (.ldn 4 1)),
  .st 7 (sg 18 13 true (.ldn 4 1)),
  .ef 5 (cg 16 13 true (.call 374 [15])) [] [sg 18 13 true (.ldn 4 1)],
  .st 6 (sg 17 13 true (.bin .mul (k 16) 16)),
  .ef 8 (cg 19 13 true (.call 374 [18])) [] [],
  .st 9 (sg 20 13 true (.bin .mul 17 19)),
  .st 10 (sg 21 13 true (.bin .lss 14 20)),
  .st 11 (s 22 (.pick 13 21 (.c (.b false)))),
  .st 12 (m 2 22)])
 .ret))) [.t 2]
def af329 : AFn := .code 11 (.seq (.reg [f 3 (.box 1),s 4 (.mv (k 0))])
 (.seq (.reg [m 5 0,s 6 (.nilc 5),s 7 (.fa 2 6),s 8 (.ld1 7),s 9 (.mkfn (.func 376) [] [3]),c 10 (.call 375 [8,9]),m 4 10])
 .ret)) [.t 4]
def af330 : AFn := .code 8 (.seq (.reg [s 2 (.mv (.c .sn))])
 (.seq (.seq (.reg [m 3 0,s 4 (.nils false 3 (.c .sn))])
 (.cond 4 (.seq (.reg [s 2 (.mv (.c .sn))])
 .ret) .skip))
 (.seq (.reg [f 5 (.bsl 1 0 [] []),m 6 0,e 7 (.app 1 1 5 6),m 2 7])
 .ret))) [.t 2]
def af332 : AFn := .code 44 (.seq (.reg [f 2 (.box 0),s 4 (.mv (.c .sn)),s 5 (.mv (k 0))])
 (.seq (.seq (.reg [s 13 (.ldn 4 2),c 14 (.call 278 [13]),m 6 14])
 (.seq (.reg [m 15 6,s 16 (.bin .neq 15 (k 0))])
 (.cond 16 (.seq (.reg [m 17 6,s 4 (.mv (.c .sn)),m 5 17])
 .ret) .skip)))
 (.seq (.reg [s 18 (.ldn 4 2),c 19 (.call 378 [18]),s 20 (.mkfn (.func 379) [19] []),m 7 20])
 (.seq (.reg [s 8 (.mv (.c .sn))])
 (.seq (.seq (.reg [m 21 1,s 22 (.fa 3 2),s 23 (.ld1 22),c 24 (.call 324 [21,23]),s 25 (.len 24),s 26 (.mv (k 0))])
 (.block 0 (.loop (.seq (.reg [s 27 (.bin .lss 26 25)])
 (.seq (.cond 27 .skip (.exit 0))
 (.seq (.block 1 (.seq (.reg [s 28 (.ia 1 24 26),s 29 (.ld1 28),m 10 29])
 (.seq (.reg [m 31 10,c 32 (.call 9 [31]),m 30 32,s 33 (.ext 30 0),s 34 (.ext 30 1),f 11 (.alloc [(i 0),(i 0),(i 0)]),st 3 11 33,m 12 34])
 (.seq (.reg [m 35 7,s 36 (.ldn 3 11),c 37 (.dyn 35 [36])])
 (.cond 37 (.reg [m 38 8,m 39 10,f 40 (.bsl 1 1 [(.i .u64 0)] [(0,1,39)]),e 41 (.app 1 8 38 40),m 8 41]) .skip)))))
 (.reg [s 42 (.bin .add 26 (k 1)),m 26 42])))))))
 (.seq (.reg [m 43 8,m 4 43,s 5 (.mv (k 0))])
 .ret)))))) [.t 4,.t 5]
def af333 : AFn := .code 98 (.seq (.reg [f 2 (.box 0),s 4 (.mv (.c .sn))])
 (.seq (.reg [m 15 1,c 16 (.call 9 [15]),m 14 16,s 17 (.ext 14 0),s 18 (.ext 14 1),f 5 (.alloc [(i 0),(i 0),(i 0)]),st 3 5 17,m 6 18])
 (.seq (.seq (.reg [s 19 (.ldn 4 2),c 20 (.call 278 [19]),s 21 (.bin .neq 20 (k 0)),m 22 21,sg 23 22 false (.mv 6),sg 24 22 false (.bin .neq 23 (k 0)),s 25 (.pick 22 (.c (.b true)) 24),m 26 25,sg 27 26 false (.fa 0 5),sg 28 26 false (.ld1 27),sg 29 26 false (.fa 3 2),sg 30 26 false (.ld1 29),sg 31 26 false (.bin .neq 28 30),s 32 (.pick 26 (.c (.b true)) 31),m 33 32,sg 34 33 false (.ldn 4 2),sg 35 33 false (.ldn 3 5),cg 36 33 false (.call 347 [34,35]),sg 37 33 false (.un .not 36),s 38 (.pick 33 (.c (.b true)) 37)])
 (.cond 38 (.seq (.reg [s 4 (.mv (.c .sn))])
 .ret) .skip))
 (.seq (.reg [s 40 (.fa 1 5),s 41 (.ldn 2 40),s 42 (.fa 0 5),s 43 (.ld1 42),c 44 (.call 47 [41,43]),m 39 44,s 45 (.ext 39 0),s 46 (.ext 39 1),m 7 45,m 8 46])
 (.seq (.reg [s 48 (.ldn 4 2),c 49 (.call 380 [48]),m 47 49,s 50 (.ext 47 0),s 51 (.ext 47 1),s 52 (.ext 47 2),m 9 50,m 10 51,m 11 52])
 (.seq (.seq (.reg [m 53 7,s 54 (.len 53),s 55 (.mv (k 0))])
 (.block 0 (.loop (.seq (.reg [s 56 (.bin .lss 55 54)])
 (.seq (.cond 56 .skip (.exit 0))
 (.seq (.block 1 (.seq (.reg [m 57 55,m 12 57])
 (.seq (.dreg 0 [.st 0 (m 58 7),
  .st 1 (m 59 12),
  .st 2 (s 60 (.ia 2 58 59)),
  .st 3 (s 61 (.iaa 2 1 60 (k 0))),
  .st 4 (s 62 (.ld1 61)),
  .st 5 (m 63 9),
  .st 6 (s 64 (.bin .mul (k 3) 63)),
  .st 7 (s 65 (.bin .sub 62 64)),
  .st 8 (s 66 (.ia 2 58 59)),
  .st 9 (s 67 (.iaa 2 1 66 (k 0))),
  .ef 10 (st 1 67 65) [] []])
 (.dreg 0 [.st 0 (m 68 7),
  .st 1 (m 69 12),
  .st 2 (s 70 (.ia 2 68 69)),
  .st 3 (s 71 (.iaa 2 1 70 (k 1))),
  .st 4 (s 72 (.ld1 71)),
  .st 5 (m 73 10),
  .st 6 (s 74 (.bin .mul (k 3) 73)),
  .st 7 (s 75 (.bin .sub 72 74)),
  .st 8 (s 76 (.ia 2 68 69)),
  .st 9 (s 77 (.iaa 2 1 76 (k 1))),
  .ef 10 (st 1 77 75) [] []]))))
 (.reg [s 78 (.bin .add 55 (k 1)),m 55 78])))))))
 (.seq (.reg [s 79 (.ldn 4 2),c 80 (.call 374 [79]),m 13 80])
 (.seq (.reg [m 81 7,m 82 13,s 83 (.bin .mul (.c (.i .i64 (-192))) 82),m 84 13,s 85 (.bin .mul (.c (.i .i64 (-192))) 84),s 86 (.build [(i 0),(i 0)] [(0,1,83),(1,1,85)]),m 87 13,s 88 (.bin .mul (k 12480) 87),m 89 13,s 90 (.bin .mul (k 12480) 89),s 91 (.build [(i 0),(i 0)] [(0,1,88),(1,1,90)]),c 92 (.call 381 [81,86,91]),m 7 92])
 (.seq (.reg [m 93 7,m 94 13,s 95 (.bin .mul (k 3) 94),c 96 (.call 383 [93,95]),c 97 (.call 382 [96]),m 4 97])
 .ret))))))))) [.t 4]
def af334 : AFn := .code 79 (.seq (.reg [s 2 (.mv (.c .sn))])
 (.seq (.reg [c 12 (.call 384 [(.c .sn),(k 15),(.c (.i .u64 2))]),m 3 12])
 (.seq (.reg [m 13 3,f 14 (.bsl 1 5 [(.i .u8 0),(.i .u8 0),(.i .u8 0),(.i .u8 0),(.i .u8 0)] [(0,1,(.c (.i .u8 99))),(1,1,(.c (.i .u8 101))),(2,1,(.c (.i .u8 108))),(3,1,(.c (.i .u8 108))),(4,1,(.c (.i .u8 115)))]),e 15 (.cvss 14),c 16 (.call 385 [13,(k 1),15]),m 3 16])
 (.seq (.seq (.reg [m 17 0,s 18 (.len 17),s 19 (.mv (k 0))])
 (.block 0 (.loop (.seq (.reg [s 20 (.bin .lss 19 18)])
 (.seq (.cond 20 .skip (.exit 0))
 (.seq (.block 1 (.seq (.reg [m 21 19,s 22 (.ia 6 17 19),s 23 (.ldn 6 22),f 5 (.alloc [(.i .u64 0),.sn,(i 0),(i 0),(i 0),(i 0)]),m 4 21,st 6 5 23])
 (.reg [m 24 3,s 25 (.fa 0 5),s 26 (.ld1 25),s 27 (.build [(.i .u64 0),(i 0),(i 0),(i 0),(i 0)] [(0,1,26)]),s 28 (.fa 1 5),s 29 (.ld1 28),m 30 4,s 31 (.bin .mul (k 4) 30),c 32 (.call 386 [27,29,31]),c 33 (.call 385 [(.c .sn),(k 2),32]),e 34 (.app 1 1 24 33),m 3 34])))
 (.reg [s 35 (.bin .add 19 (k 1)),m 19 35])))))))
 (.seq (.seq (.reg [f 36 (.bsl 1 4 [(.s []),(.s []),(.s []),(.s [])] [(0,1,(.c (.s [99,111,117,110,116]))),(1,1,(.c (.s [115,117,109]))),(2,1,(.c (.s [109,105,110]))),(3,1,(.c (.s [109,97,120])))]),s 37 (.len 36),s 38 (.mv (k 0))])
 (.block 2 (.loop (.seq (.reg [s 39 (.bin .lss 38 37)])
 (.seq (.cond 39 .skip (.exit 2))
 (.seq (.block 3 (.seq (.reg [s 40 (.ia 1 36 38),s 41 (.ld1 40),m 7 41])
 (.reg [m 42 3,m 43 7,e 44 (.s2b 43),c 45 (.call 385 [42,(k 3),44]),m 3 45])))
 (.reg [s 46 (.bin .add 38 (k 1)),m 38 46])))))))
 (.seq (.seq (.reg [m 47 0,s 48 (.len 47),s 49 (.mv (k 0))])
 (.block 4 (.loop (.seq (.reg [s 50 (.bin .lss 49 48)])
 (.seq (.cond 50 .skip (.exit 4))
 (.seq (.block 5 (.seq (.reg [s 51 (.ia 6 47 49),s 52 (.ldn 6 51),f 9 (.alloc [(.i .u64 0),.sn,(i 0),(i 0),(i 0),(i 0)]),st 6 9 52])
 (.seq (.reg [s 53 (.fa 2 9),s 54 (.ld1 53),s 55 (.fa 3 9),s 56 (.ld1 55),s 57 (.fa 4 9),s 58 (.ld1 57),s 59 (.fa 5 9),s 60 (.ld1 59),f 61 (.bsl 1 4 [(i 0),(i 0),(i 0),(i 0)] [(0,1,54),(1,1,56),(2,1,58),(3,1,60)]),s 62 (.len 61),s 63 (.mv (k 0))])
 (.block 6 (.loop (.seq (.reg [s 64 (.bin .lss 63 62)])
 (.seq (.cond 64 .skip (.exit 6))
 (.seq (.block 7 (.seq (.reg [s 65 (.ia 1 61 63),s 66 (.ld1 65),m 11 66])
 (.reg [m 67 3,m 68 11,c 69 (.call 387 [68]),c 70 (.call 384 [(.c .sn),(k 6),69]),c 71 (.call 385 [(.c .sn),(k 4),70]),e 72 (.app 1 1 67 71),m 3 72])))
 (.reg [s 73 (.bin .add 63 (k 1)),m 63 73])))))))))
 (.reg [s 74 (.bin .add 49 (k 1)),m 49 74])))))))
 (.seq (.reg [m 75 3,c 76 (.call 384 [75,(k 5),(.c (.i .u64 4096))]),m 3 76])
 (.seq (.reg [m 77 3,c 78 (.call 385 [(.c .sn),(k 3),77]),m 2 78])
 .ret)))))))) [.t 2]
def af344 : AFn := .code 49 (.seq (.reg [s 6 (.mv (k 0)),s 7 (.mv (.c (.b false)))])
 (.seq (.reg [m 12 0,s 13 (.len 12),m 8 13])
 (.seq (.reg [m 14 8,s 9 (.mv (k 0)),m 10 14])
 (.seq (.block 0 (.loop (.seq (.seq (.reg [m 15 9,m 16 10,s 17 (.bin .lss 15 16)])
 (.cond 17 .skip (.exit 0)))
 (.block 1 (.seq (.reg [m 18 9,m 19 10,s 20 (.bin .add 18 19),s 21 (.cvi .u64 20),s 22 (.bin .shr 21 (.c (.i .u64 1))),s 23 (.cvi .i64 22),m 11 23])
 (.seq (.reg [m 24 2,m 25 0,m 26 11,s 27 (.ia 4 25 26),s 28 (.ldn 4 27),m 29 1,c 30 (.dyn 24 [28,29]),s 31 (.bin .lss 30 (k 0))])
 (.cond 31 (.reg [m 32 11,s 33 (.bin .add 32 (k 1)),m 9 33]) (.reg [m 34 11,m 10 34]))))))))
 (.seq (.reg [m 35 9,m 36 9,m 37 8,s 38 (.bin .lss 36 37),m 39 38,sg 40 39 true (.mv 2),sg 41 39 true (.mv 0),sg 42 39 true (.mv 9),sg 43 39 true (.ia 4 41 42),sg 44 39 true (.ldn 4 43),sg 45 39 true (.mv 1),cg 46 39 true (.dyn 40 [44,45]),sg 47 39 true (.bin .eql 46 (k 0)),s 48 (.pick 39 47 (.c (.b false))),m 6 35,m 7 48])
 .ret))))) [.t 6,.t 7]
def af345 : AFn := .code 15 (.seq (.reg [f 2 (.box 0),s 4 (.mv (k 0))])
 (.seq (.block 0 (.seq (.reg [s 6 (.fa 0 2),s 7 (.ld1 6),m 8 1,s 9 (.bin .lss 7 8),m 5 9])
 (.cond 5 (.seq (.reg [s 4 (.mv (.c (.i .i64 (-1))))])
 .ret) (.seq (.reg [s 11 (.fa 0 2),s 12 (.ld1 11),m 13 1,s 14 (.bin .gtr 12 13),m 10 14])
 (.cond 10 (.seq (.reg [s 4 (.mv (k 1))])
 .ret) .skip)))))
 (.seq (.reg [s 4 (.mv (k 0))])
 .ret))) [.t 4]
def af347 : AFn := .code 13 (.seq (.reg [f 2 (.box 0),f 3 (.box 1),s 4 (.mv (.c (.b false)))])
 (.seq (.dreg 0 [.st 0 (s 5 (.ldn 4 2)),
  .ef 1 (c 6 (.call 327 [5])) [] [],
  .st 2 (m 7 6),
  .st 3 (sg 8 7 true (.ldn 4 2)),
  .st 5 (sg 10 7 true (.ldn 3 3)),
  .ef 4 (cg 9 7 true (.call 378 [8])) [] [sg 10 7 true (.ldn 3 3)],
  .ef 6 (cg 11 7 true (.call 379 [9,10])) [] [],
  .st 7 (s 12 (.pick 7 11 (.c (.b false)))),
  .st 8 (m 4 12)])
 .ret)) [.t 4]
def af348 : AFn := .code 42 (.seq (.reg [s 4 (.mv (.c .sn))])
 (.seq (.reg [m 8 0,m 9 1,c 10 (.call 375 [8,9]),m 5 10])
 (.seq (.seq (.reg [m 11 5,s 12 (.bin .eql 11 (.c (.i .i64 (-1))))])
 (.cond 12 (.seq (.reg [m 13 0,m 4 13])
 .ret) .skip))
 (.seq (.seq (.reg [m 14 5,s 15 (.bin .add 14 (k 1)),m 6 15])
 (.block 0 (.loop (.seq (.seq (.reg [m 16 6,m 17 0,s 18 (.len 17),s 19 (.bin .lss 16 18)])
 (.cond 19 .skip (.exit 0)))
 (.seq (.block 1 (.seq (.reg [m 22 0,m 23 6,s 24 (.ia 1 22 23),s 25 (.ld1 24),m 7 25])
 (.seq (.reg [m 26 1,m 27 7,c 28 (.dyn 26 [27]),s 29 (.un .not 28)])
 (.cond 29 (.seq (.reg [m 30 0,m 31 5,m 32 7,s 33 (.ia 1 30 31),st 1 33 32])
 (.reg [m 34 5,s 35 (.bin .add 34 (k 1)),m 5 35])) .skip))))
 (.reg [m 20 6,s 21 (.bin .add 20 (k 1)),m 6 21]))))))
 (.seq .bad
 (.seq (.reg [m 39 0,m 40 5,s 41 (.slc 1 39 none (some 40) none),m 4 41])
 .ret)))))) [.t 4]
def af349 : AFn := .code 17 (.seq (.reg [m 4 0,c 5 (.inv 4 "Len" []),m 2 5])
 (.seq (.reg [m 6 2,s 7 (.bin .quo 6 (k 2)),s 8 (.bin .sub 7 (k 1)),m 3 8])
 (.block 0 (.loop (.seq (.seq (.reg [m 9 3,s 10 (.bin .geq 9 (k 0))])
 (.cond 10 .skip (.exit 0)))
 (.seq (.block 1 (.reg [m 13 0,m 14 3,m 15 2,c 16 (.call 82 [13,14,15])]))
 (.reg [m 11 3,s 12 (.bin .sub 11 (k 1)),m 3 12]))))))) []
def af350 : AFn := .code 10 (.seq (.reg [f 2 (.box 0),f 3 (.box 1),s 4 (.mv (.c (.b false)))])
 (.seq (.dreg 0 [.st 0 (s 5 (.ldn 2 2)),
  .st 1 (s 6 (.ldn 2 3)),
  .ef 2 (c 7 (.call 177 [6])) [] [s 5 (.ldn 2 2)],
  .ef 3 (c 8 (.call 176 [5,7])) [] [],
  .ef 4 (c 9 (.call 395 [8])) [] [],
  .st 5 (m 4 9)])
 .ret)) [.t 4]
def af353 : AFn := .code 26 (.seq (.reg [s 4 (.mv (k 0))])
 (.seq (.reg [m 8 0,s 5 (.mv (k 0)),m 6 8])
 (.seq (.block 0 (.loop (.seq (.seq (.reg [m 9 5,m 10 6,s 11 (.bin .lss 9 10)])
 (.cond 11 .skip (.exit 0)))
 (.block 1 (.seq (.reg [m 12 5,m 13 6,s 14 (.bin .add 12 13),s 15 (.cvi .u64 14),s 16 (.bin .shr 15 (.c (.i .u64 1))),s 17 (.cvi .i64 16),m 7 17])
 (.seq (.reg [m 18 1,m 19 7,c 20 (.dyn 18 [19]),s 21 (.un .not 20)])
 (.cond 21 (.reg [m 22 7,s 23 (.bin .add 22 (k 1)),m 5 23]) (.reg [m 24 7,m 6 24]))))))))
 (.seq (.reg [m 25 5,m 4 25])
 .ret)))) [.t 4]
def af354 : AFn := .code 16 (.seq (.reg [s 4 (.mv (.c (.b false)))])
 (.seq (.dreg 0 [.st 0 (s 5 (.ldn 3 1)),
  .st 1 (s 6 (.ld1 2)),
  .st 2 (s 7 (.nilc 6)),
  .st 3 (s 8 (.fa 0 7)),
  .st 4 (s 9 (.ld1 8)),
  .st 5 (m 10 0),
  .st 6 (s 11 (.ia 1 9 10)),
  .st 7 (s 12 (.ld1 11)),
  .st 8 (s 13 (.ia 3 12 (k 0))),
  .st 9 (s 14 (.ldn 3 13)),
  .ef 10 (c 15 (.call 355 [5,14])) [] [],
  .st 11 (m 4 15)])
 .ret)) [.t 4]
def af355 : AFn := .code 32 (.seq (.reg [f 2 (.box 0),f 3 (.box 1),s 4 (.mv (.c (.b false)))])
 (.seq (.block 0 (.seq (.reg [s 6 (.fa 0 2),s 7 (.ld1 6),s 8 (.fa 0 3),s 9 (.ld1 8),s 10 (.bin .neq 7 9),m 5 10])
 (.cond 5 (.seq (.reg [s 11 (.fa 0 2),s 12 (.ld1 11),s 13 (.fa 0 3),s 14 (.ld1 13),s 15 (.bin .lss 12 14),m 4 15])
 .ret) (.seq (.reg [s 17 (.fa 1 2),s 18 (.ld1 17),s 19 (.fa 1 3),s 20 (.ld1 19),s 21 (.bin .neq 18 20),m 16 21])
 (.cond 16 (.seq (.reg [s 22 (.fa 1 2),s 23 (.ld1 22),s 24 (.fa 1 3),s 25 (.ld1 24),s 26 (.bin .lss 23 25),m 4 26])
 .ret) .skip)))))
 (.seq (.reg [s 27 (.fa 2 2),s 28 (.ld1 27),s 29 (.fa 2 3),s 30 (.ld1 29),s 31 (.bin .lss 28 30),m 4 31])
 .ret))) [.t 4]
def af356 : AFn := .code 12 (.seq (.reg [s 4 (.mv (.c (.b false)))])
 (.seq (.dreg 0 [.st 0 (s 5 (.ld1 1)),
  .st 1 (m 6 0),
  .st 2 (s 7 (.ia 3 5 6)),
  .st 3 (s 8 (.ldn 3 7)),
  .st 4 (s 9 (.ldn 3 2)),
  .ef 5 (c 10 (.call 355 [8,9])) [] [],
  .st 6 (s 11 (.un .not 10)),
  .st 7 (m 4 11)])
 .ret)) [.t 4]
def af358 : AFn := .code 34 (.seq (.reg [s 4 (.mv (k 0))])
 (.seq (.seq (.reg [m 7 1,s 8 (.lens 7),s 9 (.bin .eql 8 (k 0))])
 (.cond 9 (.seq (.reg [m 10 0,c 11 (.call 397 [10]),s 12 (.bin .add 11 (k 1)),m 4 12])
 .ret) .skip))
 (.seq (.seq (.reg [m 13 1,s 14 (.lens 13),s 15 (.bin .eql 14 (k 1))])
 (.cond 15 (.seq (.reg [m 16 0,m 17 1,s 18 (.ixs 17 (k 0)),c 19 (.call 399 [16,18]),m 4 19])
 .ret) .skip))
 (.seq (.reg [s 5 (.mv (k 0))])
 (.block 0 (.loop (.block 1 (.seq (.reg [m 20 0,m 21 1,c 22 (.call 359 [20,21]),m 6 22])
 (.seq (.seq (.reg [m 23 6,s 24 (.bin .eql 23 (.c (.i .i64 (-1))))])
 (.cond 24 (.seq (.reg [m 25 5,m 4 25])
 .ret) .skip))
 (.seq (.reg [m 26 5,s 27 (.bin .add 26 (k 1)),m 5 27])
 (.reg [m 28 0,m 29 6,m 30 1,s 31 (.lens 30),s 32 (.bin .add 29 31),s 33 (.sls 28 (some 32) none),m 0 33]))))))))))) [.t 4]
def af359 : AFn := .code 8 (.seq (.reg [s 4 (.mv (k 0))])
 (.seq (.reg [m 5 0,m 6 1,c 7 (.call 400 [5,6]),m 4 7])
 .ret)) [.t 4]
def af360 : AFn := .code 15 (.seq (.reg [s 4 (.mv (.c (.s []))),s 5 (.mv (.c (.b false)))])
 (.seq (.seq (.reg [m 6 0,m 7 1,c 8 (.call 401 [6,7]),s 9 (.un .not 8)])
 (.cond 9 (.seq (.reg [m 10 0,m 4 10,s 5 (.mv (.c (.b false)))])
 .ret) .skip))
 (.seq (.reg [m 11 0,m 12 1,s 13 (.lens 12),s 14 (.sls 11 (some 13) none),m 4 14,s 5 (.mv (.c (.b true)))])
 .ret))) [.t 4,.t 5]
def af361 : AFn := .code 73 (.seq (.reg [s 6 (.mv (k 0)),s 7 (.mv (.c .nif))])
 (.seq (.seq (.reg [m 12 0,s 13 (.bin .eql 12 (.c (.s [])))])
 (.cond 13 (.seq (.reg [s 14 (.mkif 494 (k 2)),s 6 (.mv (k 0)),m 7 14])
 .ret) .skip))
 (.seq (.reg [s 8 (.mv (.c (.b false)))])
 (.seq (.seq (.reg [m 15 0,s 16 (.ixs 15 (k 0))])
 (.block 0 (.seq (.reg [s 18 (.bin .eql 16 (.c (.i .u8 43))),m 17 18])
 (.cond 17 (.reg [m 19 0,s 20 (.sls 19 (some (k 1)) none),m 0 20]) (.seq (.reg [s 22 (.bin .eql 16 (.c (.i .u8 45))),m 21 22])
 (.cond 21 (.seq (.reg [m 23 0,s 24 (.sls 23 (some (k 1)) none),m 0 24])
 (.reg [s 8 (.mv (.c (.b true)))])) .skip))))))
 (.seq (.reg [s 9 (.mv (.c (.i .u64 0)))])
 (.seq (.reg [m 26 0,m 27 1,m 28 2,c 29 (.call 402 [26,27,28]),m 25 29,s 30 (.ext 25 0),s 31 (.ext 25 1),m 9 30,m 7 31])
 (.seq (.seq (.reg [m 32 7,s 33 (.nili true 32 (.c .nif)),m 34 33,sg 35 34 true (.mv 7),sg 36 34 true (.mkif 494 (k 1)),cg 37 34 true (.bad),s 38 (.pick 34 37 (.c (.b false)))])
 (.cond 38 (.seq (.reg [m 39 7,s 6 (.mv (k 0)),m 7 39])
 .ret) .skip))
 (.seq (.seq (.reg [m 40 2,s 41 (.bin .eql 40 (k 0))])
 (.cond 41 (.reg [s 2 (.mv (k 64))]) .skip))
 (.seq (.reg [m 42 2,s 43 (.bin .sub 42 (k 1)),s 44 (.cvi .u64 43),s 45 (.bin .shl (.c (.i .u64 1)) 44),m 10 45])
 (.seq (.seq (.reg [m 46 8,s 47 (.un .not 46),m 48 47,sg 49 48 true (.mv 9),sg 50 48 true (.mv 10),sg 51 48 true (.bin .geq 49 50),s 52 (.pick 48 51 (.c (.b false)))])
 (.cond 52 (.seq (.reg [m 53 10,s 54 (.bin .sub 53 (.c (.i .u64 1))),s 55 (.cvi .i64 54),s 56 (.mkif 494 (k 1)),m 6 55,m 7 56])
 .ret) .skip))
 (.seq (.seq (.reg [m 57 8,m 58 57,sg 59 58 true (.mv 9),sg 60 58 true (.mv 10),sg 61 58 true (.bin .gtr 59 60),s 62 (.pick 58 61 (.c (.b false)))])
 (.cond 62 (.seq (.reg [m 63 10,s 64 (.cvi .i64 63),s 65 (.un .neg 64),s 66 (.mkif 494 (k 1)),m 6 65,m 7 66])
 .ret) .skip))
 (.seq (.reg [m 67 9,s 68 (.cvi .i64 67),m 11 68])
 (.seq (.seq (.reg [m 69 8])
 (.cond 69 (.reg [m 70 11,s 71 (.un .neg 70),m 11 71]) .skip))
 (.seq (.reg [m 72 11,m 6 72,s 7 (.mv (.c .nif))])
 .ret)))))))))))))) [.t 6,.t 7]
def af363 : AFn := .code 54 (.seq (.reg [s 4 (.mv (.c (.s [])))])
 (.seq (.seq (.reg [m 10 1,s 11 (.bin .eql 10 (k 10))])
 (.cond 11 (.seq (.seq (.reg [m 12 0,s 13 (.bin .leq (k 0) 12),m 14 13,sg 15 14 true (.mv 0),sg 16 14 true (.bin .lss 15 (k 100)),s 17 (.pick 14 16 (.c (.b false)))])
 (.cond 17 (.seq (.reg [m 18 0,c 19 (.call 407 [18]),m 4 19])
 .ret) .skip))
 (.seq (.reg [f 5 (.alloc [(.i .u8 0),(.i .u8 0),(.i .u8 0),(.i .u8 0),(.i .u8 0),(.i .u8 0),(.i .u8 0),(.i .u8 0),(.i .u8 0),(.i .u8 0),(.i .u8 0),(.i .u8 0),(.i .u8 0),(.i .u8 0),(.i .u8 0),(.i .u8 0),(.i .u8 0),(.i .u8 0),(.i .u8 0),(.i .u8 0),(.i .u8 0),(.i .u8 0),(.i .u8 0),(.i .u8 0)])])
 (.seq (.reg [m 20 0,s 21 (.cvi .u64 20),m 6 21])
 (.seq (.seq (.reg [m 22 0,s 23 (.bin .lss 22 (k 0))])
 (.cond 23 (.reg [m 24 6,s 25 (.un .neg 24),m 6 25]) .skip))
 (.seq (.reg [m 26 6,c 27 (.call 408 [26]),m 7 27])
 (.seq (.reg [m 28 7,s 29 (.bin .add (k 1) 28),s 30 (.sla 24 1 5 (some (k 1)) (some 29)),m 31 6,c 32 (.call 409 [30,31])])
 (.seq (.seq (.reg [m 33 0,s 34 (.bin .lss 33 (k 0))])
 (.cond 34 (.seq (.reg [s 35 (.iaa 24 1 5 (k 0)),en (.st 1 35 (.c (.i .u8 45)))])
 (.seq (.reg [m 36 7,s 37 (.bin .add (k 1) 36),s 38 (.sla 24 1 5 none (some 37)),s 39 (.cvb 38),m 4 39])
 .ret)) .skip))
 (.seq (.reg [m 40 7,s 41 (.bin .add (k 1) 40),s 42 (.sla 24 1 5 (some (k 1)) (some 41)),s 43 (.cvb 42),m 4 43])
 .ret)))))))) .skip))
 (.seq (.reg [m 45 0,s 46 (.cvi .u64 45),m 47 1,m 48 0,s 49 (.bin .lss 48 (k 0)),c 50 (.call 410 [(.c .sn),46,47,49,(.c (.b false))]),m 44 50,s 51 (.ext 44 0),s 52 (.ext 44 1),m 8 51,m 9 52])
 (.seq (.reg [m 53 9,m 4 53])
 .ret)))) [.t 4]
def af364 : AFn := .code 20 (.seq (.reg [m 2 0,s 3 (.nilc 2),s 4 (.fa 0 3),s 5 (.ld1 4),s 6 (.nilp false 5 (.c .pn))])
 (.cond 6 .bad (.seq (.reg [m 14 0,s 15 (.nilc 14),s 16 (.fa 0 15),s 17 (.ld1 16),m 18 0,s 19 (.nilp true 17 18)])
 (.cond 19 .bad .skip)))) []
def af365 : AFn := .code 30 (.seq .bad
 (.seq (.reg [m 20 4,m 21 0,s 22 (.nilc 21),s 23 (.fa 1 22),s 24 (.ld1 23),e 25 (.cpy 1 20 24)])
 (.reg [m 26 0,m 27 4,s 28 (.nilc 26),s 29 (.fa 1 28),st 1 29 27]))) []
def af369 : AFn := .code 50 (.seq (.reg [f 4 (.box 1)])
 (.seq (.seq (.reg [m 9 0,s 10 (.nilc 9),s 11 (.fa 0 10),s 12 (.ld1 11),s 13 (.len 12),s 14 (.bin .eql 13 (k 0))])
 (.cond 14 .ret .skip))
 (.seq (.reg [m 15 0,s 16 (.ldn 3 4),c 17 (.call 304 [15,16]),m 6 17])
 (.block 0 (.loop (.seq (.seq (.reg [m 18 6,m 19 0,s 20 (.nilc 19),s 21 (.fa 0 20),s 22 (.ld1 21),s 23 (.len 22),s 24 (.bin .lss 18 23)])
 (.cond 24 .skip (.exit 0)))
 (.seq (.block 1 (.seq (.reg [m 27 0,s 28 (.nilc 27),s 29 (.fa 0 28),s 30 (.ld1 29),m 31 6,s 32 (.ia 1 30 31),s 33 (.ld1 32),s 34 (.len 33),s 35 (.mv (k 0))])
 (.block 2 (.loop (.seq (.reg [s 36 (.bin .lss 35 34)])
 (.seq (.cond 36 .skip (.exit 2))
 (.seq (.block 3 (.seq (.reg [s 37 (.ia 3 33 35),s 38 (.ldn 3 37),f 8 (.alloc [(.i .u64 0),(i 0),(i 0)]),st 3 8 38])
 (.seq (.reg [s 39 (.ldn 3 8),s 40 (.ldn 3 4),c 41 (.call 355 [39,40]),s 42 (.un .not 41),m 43 42,sg 44 43 true (.mv 2),sg 45 43 true (.ldn 3 8),cg 46 43 true (.dyn 44 [45]),sg 47 43 true (.un .not 46),s 48 (.pick 43 47 (.c (.b false)))])
 (.cond 48 .ret .skip))))
 (.reg [s 49 (.bin .add 35 (k 1)),m 35 49]))))))))
 (.reg [m 25 6,s 26 (.bin .add 25 (k 1)),m 6 26])))))))) []
def af370 : AFn := .code 12 (.seq (.reg [f 3 (.box 0),s 4 (.mv (.c (.b false)))])
 (.seq (.seq (.reg [s 5 (.fa 0 3),s 6 (.ld1 5),s 7 (.ld1 1),s 8 (.bin .neq 6 7)])
 (.cond 8 (.seq (.reg [s 4 (.mv (.c (.b false)))])
 .ret) .skip))
 (.seq (.reg [s 9 (.ld1 2),s 10 (.ldn 3 3),c 11 (.dyn 9 [10])])
 (.seq (.reg [s 4 (.mv (.c (.b true)))])
 .ret)))) [.t 4]
def af373 : AFn := .code 17 (.seq (.reg [s 2 (.mv (k 0)),s 3 (.mv (.c (.b false)))])
 (.seq (.seq (.reg [m 6 0,c 7 (.call 34 [6]),s 8 (.un .not 7)])
 (.cond 8 (.seq (.reg [s 2 (.mv (k 0)),s 3 (.mv (.c (.b false)))])
 .ret) .skip))
 (.seq (.reg [m 10 0,s 11 (.bin .sub (k 12) 10),c 12 (.call 37 [(k 7),11]),m 9 12,s 13 (.ext 9 0),s 14 (.ext 9 1),m 4 13,m 5 14])
 (.seq (.reg [m 15 4,s 16 (.bin .mul (k 169) 15),m 2 16,s 3 (.mv (.c (.b true)))])
 .ret)))) [.t 2,.t 3]
def af374 : AFn := .code 8 (.seq (.reg [f 1 (.box 0),s 2 (.mv (k 0))])
 (.seq (.reg [s 3 (.fa 0 1),s 4 (.ld1 3),s 5 (.bin .sub (k 18) 4),s 6 (.cvi .u64 5),s 7 (.bin .shl (k 1) 6),m 2 7])
 .ret)) [.t 2]
def af375 : AFn := .code 19 (.seq (.reg [s 4 (.mv (k 0))])
 (.seq (.seq (.reg [m 6 0,s 7 (.len 6),s 8 (.mv (k 0))])
 (.block 0 (.loop (.seq (.reg [s 9 (.bin .lss 8 7)])
 (.seq (.cond 9 .skip (.exit 0))
 (.seq (.block 1 (.seq (.reg [m 10 8,m 5 10])
 (.seq (.reg [m 11 1,m 12 0,m 13 5,s 14 (.ia 1 12 13),s 15 (.ld1 14),c 16 (.dyn 11 [15])])
 (.cond 16 (.seq (.reg [m 17 5,m 4 17])
 .ret) .skip))))
 (.reg [s 18 (.bin .add 8 (k 1)),m 8 18])))))))
 (.seq (.reg [s 4 (.mv (.c (.i .i64 (-1))))])
 .ret))) [.t 4]
def af378 : AFn := .code 23 (.seq (.reg [f 1 (.box 0),f 2 (.alloc [(i 0),(i 0),(i 0),(i 0)])])
 (.seq (.reg [s 7 (.ldn 4 1),c 8 (.call 380 [7]),m 6 8,s 9 (.ext 6 0),s 10 (.ext 6 1),s 11 (.ext 6 2),m 3 9,m 4 10,m 5 11])
 (.seq (.reg [m 12 3,m 13 4,s 14 (.build [(i 0),(i 0)] [(0,1,12),(1,1,13)]),m 15 3,m 16 5,s 17 (.bin .add 15 16),m 18 4,m 19 5,s 20 (.bin .add 18 19),s 21 (.build [(i 0),(i 0)] [(0,1,17),(1,1,20)]),s 22 (.build [(i 0),(i 0),(i 0),(i 0)] [(0,2,14),(2,2,21)]),st 4 2 22])
 .ret))) [.cn 2 4]
def af379 : AFn := .code 11 (.seq (.reg [f 2 (.box 0),f 3 (.box 1),s 4 (.mv (.c (.b false)))])
 (.seq (.reg [s 5 (.ldn 3 3),s 6 (.fa 0 2),s 7 (.ldn 2 6),s 8 (.fa 2 2),s 9 (.ldn 2 8),c 10 (.call 13 [5,7,9]),m 4 10])
 .ret)) [.t 4]
def af380 : AFn := .code 22 (.seq (.reg [f 1 (.box 0),s 2 (.mv (k 0)),s 3 (.mv (k 0)),s 4 (.mv (k 0))])
 (.seq (.seq (.reg [s 5 (.ldn 4 1),c 6 (.call 327 [5]),s 7 (.un .not 6)])
 (.cond 7 (.seq (.reg [s 2 (.mv (k 0)),s 3 (.mv (k 0)),s 4 (.mv (k 0))])
 .ret) .skip))
 (.seq (.reg [s 8 (.fa 0 1),s 9 (.ld1 8),s 10 (.bin .sub (k 30) 9),s 11 (.cvi .u64 10),s 12 (.bin .shl (k 1) 11),m 4 12])
 (.seq (.dreg 0 [.st 0 (s 13 (.fa 1 1)),
  .st 1 (s 14 (.ld1 13)),
  .st 2 (m 15 4),
  .st 3 (s 16 (.bin .mul 14 15)),
  .st 4 (s 17 (.fa 2 1)),
  .st 5 (s 18 (.ld1 17)),
  .st 6 (m 19 4),
  .st 7 (s 20 (.bin .mul 18 19)),
  .st 8 (m 21 4),
  .st 9 (m 2 16),
  .st 10 (m 3 20),
  .st 11 (m 4 21)])
 .ret)))) [.t 2,.t 3,.t 4]
def af381 : AFn := .code 37 (.seq (.reg [f 4 (.box 1),f 5 (.box 2),s 6 (.mv (.c .sn))])
 (.seq (.seq (.reg [s 9 (.iaa 2 1 4 (k 0)),s 10 (.ld1 9),s 11 (.build [(i 0),(i 0),(.b false)] [(0,1,(k 0)),(1,1,10),(2,1,(.c (.b true)))]),s 12 (.iaa 2 1 5 (k 0)),s 13 (.ld1 12),s 14 (.build [(i 0),(i 0),(.b false)] [(0,1,(k 0)),(1,1,13),(2,1,(.c (.b false)))]),s 15 (.iaa 2 1 4 (k 1)),s 16 (.ld1 15),s 17 (.build [(i 0),(i 0),(.b false)] [(0,1,(k 1)),(1,1,16),(2,1,(.c (.b true)))]),s 18 (.iaa 2 1 5 (k 1)),s 19 (.ld1 18),s 20 (.build [(i 0),(i 0),(.b false)] [(0,1,(k 1)),(1,1,19),(2,1,(.c (.b false)))]),f 21 (.bsl 3 4 [(i 0),(i 0),(.b false),(i 0),(i 0),(.b false),(i 0),(i 0),(.b false),(i 0),(i 0),(.b false)] [(0,3,11),(3,3,14),(6,3,17),(9,3,20)]),s 22 (.len 21),s 23 (.mv (k 0))])
 (.block 0 (.loop (.seq (.reg [s 24 (.bin .lss 23 22)])
 (.seq (.cond 24 .skip (.exit 0))
 (.seq (.block 1 (.seq (.reg [s 25 (.ia 3 21 23),s 26 (.ldn 3 25),f 8 (.alloc [(i 0),(i 0),(.b false)]),st 3 8 26])
 (.reg [m 27 0,s 28 (.fa 0 8),s 29 (.ld1 28),s 30 (.fa 1 8),s 31 (.ld1 30),s 32 (.fa 2 8),s 33 (.ld1 32),c 34 (.call 415 [27,29,31,33]),m 0 34])))
 (.reg [s 35 (.bin .add 23 (k 1)),m 23 35])))))))
 (.seq (.reg [m 36 0,m 6 36])
 .ret))) [.t 6]
def af382 : AFn := .code 40 (.seq (.reg [s 2 (.mv (.c .sn))])
 (.seq (.seq (.reg [m 7 0,c 8 (.call 416 [7]),s 9 (.un .not 8)])
 (.cond 9 (.seq (.reg [s 2 (.mv (.c .sn))])
 .ret) .skip))
 (.seq (.reg [s 3 (.mv (.c .sn))])
 (.seq (.seq (.reg [m 10 0,s 11 (.len 10),s 12 (.mv (k 0))])
 (.block 0 (.loop (.seq (.reg [s 13 (.bin .lss 12 11)])
 (.seq (.cond 13 .skip (.exit 0))
 (.seq (.block 1 (.seq (.reg [s 14 (.ia 2 10 12),s 15 (.ldn 2 14),f 5 (.alloc [(i 0),(i 0)]),st 2 5 15])
 (.reg [m 16 3,s 17 (.ldn 2 5),f 18 (.bsl 2 1 [(i 0),(i 0)] [(0,2,17)]),e 19 (.app 2 16 16 18),m 3 19])))
 (.reg [s 20 (.bin .add 12 (k 1)),m 12 20])))))))
 (.seq (.reg [m 21 3,c 22 (.call 417 [21,(.c (.f (.func 418) [] []))])])
 (.seq (.reg [m 23 3,c 24 (.call 419 [23]),m 3 24])
 (.seq (.seq (.reg [m 25 3,s 26 (.len 25),s 27 (.bin .lss 26 (k 3))])
 (.cond 27 (.seq (.reg [s 2 (.mv (.c .sn))])
 .ret) .skip))
 (.seq (.reg [m 28 3,c 29 (.call 420 [28]),m 6 29])
 (.seq (.reg [m 30 3,c 31 (.call 421 [30])])
 (.seq (.reg [m 32 6,m 33 3,c 34 (.call 420 [33]),e 35 (.app 2 16 32 34),m 6 35])
 (.seq (.seq (.reg [m 36 6,s 37 (.len 36),s 38 (.bin .lss 37 (k 3))])
 (.cond 38 (.seq (.reg [s 2 (.mv (.c .sn))])
 .ret) .skip))
 (.seq (.reg [m 39 6,m 2 39])
 .ret)))))))))))) [.t 2]
def af383 : AFn := .code 51 (.seq (.reg [s 4 (.mv (.c .sn))])
 (.seq (.seq (.reg [m 14 1,s 15 (.bin .lss 14 (k 1)),m 16 15,sg 17 16 false (.mv 0),cg 18 16 false (.call 422 [17]),sg 19 16 false (.un .not 18),s 20 (.pick 16 (.c (.b true)) 19)])
 (.cond 20 (.seq (.reg [s 4 (.mv (.c .sn))])
 .ret) .skip))
 (.seq (.reg [s 5 (.mv (.c .sn))])
 (.seq (.seq (.reg [m 21 0,s 22 (.len 21),s 23 (.mv (k 0))])
 (.block 0 (.loop (.seq (.reg [s 24 (.bin .lss 23 22)])
 (.seq (.cond 24 .skip (.exit 0))
 (.seq (.block 1 (.seq (.reg [s 25 (.ia 2 21 23),s 26 (.ldn 2 25),f 7 (.alloc [(i 0),(i 0)]),st 2 7 26])
 (.seq (.reg [s 28 (.iaa 2 1 7 (k 0)),s 29 (.ld1 28),m 30 1,c 31 (.call 78 [29,30]),m 27 31,s 32 (.ext 27 0),s 33 (.ext 27 1),s 34 (.ext 27 2),m 8 32,m 9 33,m 10 34])
 (.seq (.reg [s 36 (.iaa 2 1 7 (k 1)),s 37 (.ld1 36),m 38 1,c 39 (.call 78 [37,38]),m 35 39,s 40 (.ext 35 0),s 41 (.ext 35 1),s 42 (.ext 35 2),m 11 40,m 12 41,m 13 42])
 (.reg [m 43 5,m 44 8,m 45 11,s 46 (.build [(i 0),(i 0)] [(0,1,44),(1,1,45)]),f 47 (.bsl 2 1 [(i 0),(i 0)] [(0,2,46)]),e 48 (.app 2 16 43 47),m 5 48])))))
 (.reg [s 49 (.bin .add 23 (k 1)),m 23 49])))))))
 (.seq (.reg [m 50 5,m 4 50])
 .ret))))) [.t 4]
def af384 : AFn := .code 27 (.seq (.reg [s 6 (.mv (.c .sn))])
 (.seq (.reg [m 9 0,c 10 (.call 423 [9]),m 7 10])
 (.seq (.seq (.reg [m 11 1,c 12 (.call 424 [11])])
 (.cond 12 (.seq (.reg [m 13 7,s 14 (.mkfn (.func 425) [13] []),m 8 14])
 (.seq (.reg [m 15 8,m 16 1,s 17 (.cvi .u64 16),s 18 (.bin .mul 17 (.c (.i .u64 8))),c 19 (.dyn 15 [18])])
 (.reg [m 20 8,m 21 2,c 22 (.dyn 20 [21])]))) .skip))
 (.seq (.reg [m 23 7,s 24 (.nilc 23),s 25 (.fa 0 24),s 26 (.ld1 25),m 6 26])
 .ret)))) [.t 6]
def af385 : AFn := .code 39 (.seq (.reg [s 6 (.mv (.c .sn))])
 (.seq (.reg [m 9 0,c 10 (.call 423 [9]),m 7 10])
 (.seq (.seq (.reg [m 11 1,c 12 (.call 424 [11])])
 (.cond 12 (.seq (.reg [m 13 7,s 14 (.mkfn (.func 425) [13] []),m 8 14])
 (.seq (.reg [m 15 8,m 16 1,s 17 (.cvi .u64 16),s 18 (.bin .mul 17 (.c (.i .u64 8))),s 19 (.bin .add 18 (.c (.i .u64 2))),c 20 (.dyn 15 [19])])
 (.seq (.reg [m 21 8,m 22 2,s 23 (.len 22),s 24 (.cvi .u64 23),c 25 (.dyn 21 [24])])
 (.reg [m 26 7,m 27 7,s 28 (.nilc 27),s 29 (.fa 0 28),s 30 (.ld1 29),m 31 2,e 32 (.app 1 1 30 31),s 33 (.nilc 26),s 34 (.fa 0 33),st 1 34 32])))) .skip))
 (.seq (.reg [m 35 7,s 36 (.nilc 35),s 37 (.fa 0 36),s 38 (.ld1 37),m 6 38])
 .ret)))) [.t 6]
def af386 : AFn := .code 37 (.seq (.reg [f 3 (.box 0),s 6 (.mv (.c .sn))])
 (.seq (.reg [m 11 2,s 12 (.mx 11 (k 0)),s 13 (.cvi .u64 12),m 7 13])
 (.seq (.reg [s 8 (.mv (.c .sn))])
 (.seq (.seq (.reg [s 14 (.mv (.c (.i .u64 0)))])
 (.block 0 (.loop (.seq (.reg [s 15 (.bin .lss 14 (.c (.i .u64 4)))])
 (.seq (.cond 15 .skip (.exit 0))
 (.seq (.block 1 (.seq (.reg [m 16 14,m 9 16])
 (.reg [m 17 8,m 18 9,m 19 7,m 20 9,s 21 (.bin .add 19 20),f 22 (.bsl 1 2 [(.i .u64 0),(.i .u64 0)] [(0,1,18),(1,1,21)]),e 23 (.app 1 8 17 22),m 8 23])))
 (.reg [s 24 (.bin .add 14 (.c (.i .u64 1))),m 14 24])))))))
 (.seq (.reg [s 25 (.fa 0 3),s 26 (.ld1 25),c 27 (.call 384 [(.c .sn),(k 1),26]),m 10 27])
 (.seq (.reg [m 28 10,m 29 8,c 30 (.call 426 [28,(k 2),29]),m 10 30])
 (.seq (.reg [m 31 10,c 32 (.call 384 [31,(k 3),(.c (.i .u64 3))]),m 10 32])
 (.seq (.reg [m 33 10,m 34 1,c 35 (.call 427 [34]),c 36 (.call 426 [33,(k 4),35]),m 6 36])
 .ret)))))))) [.t 6]
def af387 : AFn := .code 10 (.seq (.reg [s 2 (.mv (.c (.i .u64 0)))])
 (.seq (.reg [m 3 0,s 4 (.bin .shl 3 (.c (.i .u64 1))),s 5 (.cvi .u64 4),m 6 0,s 7 (.bin .shr 6 (.c (.i .u64 63))),s 8 (.cvi .u64 7),s 9 (.bin .xor 5 8),m 2 9])
 .ret)) [.t 2]
def af395 : AFn := .code 7 (.seq (.reg [f 1 (.box 0),s 2 (.mv (.c (.b false)))])
 (.seq (.reg [s 3 (.fa 0 1),s 4 (.ld1 3),s 5 (.bin .shr 4 (.c (.i .u64 63))),s 6 (.bin .eql 5 (.c (.i .u64 1))),m 2 6])
 .ret)) [.t 2]
def af400 : AFn := .code 143 (.seq (.reg [s 4 (.mv (k 0))])
 (.seq (.reg [m 14 1,s 15 (.lens 14),m 5 15])
 (.seq (.block 0 (.seq (.reg [m 17 5,s 18 (.bin .eql 17 (k 0)),m 19 18,sg 20 19 false (.mv 1),sg 21 19 false (.mv 0),sg 22 19 false (.bin .eql 20 21),s 23 (.pick 19 (.c (.b true)) 22),m 16 23])
 (.cond 16 (.seq (.reg [s 4 (.mv (k 0))])
 .ret) (.seq (.reg [m 25 5,s 26 (.bin .eql 25 (k 1)),m 24 26])
 (.cond 24 (.seq (.reg [m 27 0,m 28 1,s 29 (.ixs 28 (k 0)),c 30 (.call 434 [27,29]),m 4 30])
 .ret) (.seq (.reg [m 32 5,m 33 0,s 34 (.lens 33),s 35 (.bin .geq 32 34),m 31 35])
 (.cond 31 (.seq (.reg [s 4 (.mv (.c (.i .i64 (-1))))])
 .ret) (.seq .bad
 (.cond 36 (.seq (.reg [m 45 0,m 46 1,c 47 (.call 435 [45,46]),m 4 47])
 .ret) .skip)))))))))
 (.seq (.reg [m 48 1,s 49 (.ixs 48 (k 0)),m 6 49])
 (.seq (.reg [m 50 1,s 51 (.ixs 50 (k 1)),m 7 51])
 (.seq (.reg [s 8 (.mv (k 0))])
 (.seq (.reg [m 52 0,s 53 (.lens 52),m 54 5,s 55 (.bin .sub 53 54),s 56 (.bin .add 55 (k 1)),m 9 56])
 (.seq (.reg [s 10 (.mv (k 0))])
 (.seq (.block 1 (.loop (.seq (.seq (.reg [m 57 8,m 58 9,s 59 (.bin .lss 57 58)])
 (.cond 59 .skip (.exit 1)))
 (.block 2 (.seq (.seq (.reg [m 60 0,m 61 8,s 62 (.ixs 60 61),m 63 6,s 64 (.bin .neq 62 63)])
 (.cond 64 (.seq (.reg [m 65 0,m 66 8,s 67 (.bin .add 66 (k 1)),m 68 9,s 69 (.sls 65 (some 67) (some 68)),m 70 6,c 71 (.call 434 [69,70]),m 11 71])
 (.seq (.seq (.reg [m 72 11,s 73 (.bin .lss 72 (k 0))])
 (.cond 73 (.seq (.reg [s 4 (.mv (.c (.i .i64 (-1))))])
 .ret) .skip))
 (.reg [m 74 8,m 75 11,s 76 (.bin .add 75 (k 1)),s 77 (.bin .add 74 76),m 8 77]))) .skip))
 (.seq (.seq (.reg [m 78 0,m 79 8,s 80 (.bin .add 79 (k 1)),s 81 (.ixs 78 80),m 82 7,s 83 (.bin .eql 81 82),m 84 83,sg 85 84 true (.mv 0),sg 86 84 true (.mv 8),sg 87 84 true (.mv 8),sg 88 84 true (.mv 5),sg 89 84 true (.bin .add 87 88),sg 90 84 true (.sls 85 (some 86) (some 89)),sg 91 84 true (.mv 1),sg 92 84 true (.bin .eql 90 91),s 93 (.pick 84 92 (.c (.b false)))])
 (.cond 93 (.seq (.reg [m 94 8,m 4 94])
 .ret) .skip))
 (.seq (.reg [m 95 8,s 96 (.bin .add 95 (k 1)),m 8 96])
 (.seq (.reg [m 97 10,s 98 (.bin .add 97 (k 1)),m 10 98])
 (.seq .bad
 (.cond 107 (.seq (.reg [m 108 0,m 109 8,s 110 (.sls 108 (some 109) none),m 111 1,c 112 (.call 435 [110,111]),m 12 112])
 (.seq (.seq (.reg [m 113 12,s 114 (.bin .geq 113 (k 0))])
 (.cond 114 (.seq (.reg [m 115 12,m 116 8,s 117 (.bin .add 115 116),m 4 117])
 .ret) .skip))
 (.seq (.reg [s 4 (.mv (.c (.i .i64 (-1))))])
 .ret))) (.seq .bad
 (.cond 132 (.seq (.reg [m 133 0,m 134 8,s 135 (.sls 133 (some 134) none),m 136 1,c 137 (.call 437 [135,136]),m 13 137])
 (.seq (.seq (.reg [m 138 13,s 139 (.bin .lss 138 (k 0))])
 (.cond 139 (.seq (.reg [s 4 (.mv (.c (.i .i64 (-1))))])
 .ret) .skip))
 (.seq (.reg [m 140 8,m 141 13,s 142 (.bin .add 140 141),m 4 142])
 .ret))) .skip))))))))))))
 (.seq (.reg [s 4 (.mv (.c (.i .i64 (-1))))])
 .ret)))))))))) [.t 4]
def af401 : AFn := .code 18 (.seq (.reg [s 4 (.mv (.c (.b false)))])
 (.seq (.reg [m 5 0,s 6 (.lens 5),m 7 1,s 8 (.lens 7),s 9 (.bin .geq 6 8),m 10 9,sg 11 10 true (.mv 0),sg 12 10 true (.mv 1),sg 13 10 true (.lens 12),sg 14 10 true (.sls 11 none (some 13)),sg 15 10 true (.mv 1),sg 16 10 true (.bin .eql 14 15),s 17 (.pick 10 16 (.c (.b false))),m 4 17])
 .ret)) [.t 4]
def af402 : AFn := .code 172 (.seq (.reg [s 6 (.mv (.c (.i .u64 0))),s 7 (.mv (.c .nif))])
 (.seq (.seq (.reg [m 18 0,s 19 (.bin .eql 18 (.c (.s [])))])
 (.cond 19 (.seq (.reg [s 20 (.mkif 494 (k 2)),s 6 (.mv (.c (.i .u64 0))),m 7 20])
 .ret) .skip))
 (.seq (.reg [m 21 1,s 22 (.bin .eql 21 (k 0)),m 8 22])
 (.seq (.reg [m 23 0,m 9 23])
 (.seq (.block 0 (.seq (.reg [m 26 1,s 27 (.bin .leq (k 2) 26),m 28 27,sg 29 28 true (.mv 1),sg 30 28 true (.bin .leq 29 (k 36)),s 31 (.pick 28 30 (.c (.b false))),m 25 31])
 (.cond 25 .skip (.seq (.reg [m 33 1,s 34 (.bin .eql 33 (k 0)),m 32 34])
 (.cond 32 (.seq (.reg [s 1 (.mv (k 10))])
 (.seq (.reg [m 35 0,s 36 (.ixs 35 (k 0)),s 37 (.bin .eql 36 (.c (.i .u8 48)))])
 (.cond 37 (.block 1 (.seq (.reg [m 41 0,s 42 (.lens 41),s 43 (.bin .geq 42 (k 3)),m 44 43,sg 45 44 true (.mv 0),sg 46 44 true (.ixs 45 (k 1)),cg 47 44 true (.call 438 [46]),sg 48 44 true (.bin .eql 47 (.c (.i .u8 98))),s 49 (.pick 44 48 (.c (.b false))),m 40 49])
 (.cond 40 (.seq (.reg [s 1 (.mv (k 2))])
 (.reg [m 50 0,s 51 (.sls 50 (some (k 2)) none),m 0 51])) (.seq (.reg [m 53 0,s 54 (.lens 53),s 55 (.bin .geq 54 (k 3)),m 56 55,sg 57 56 true (.mv 0),sg 58 56 true (.ixs 57 (k 1)),cg 59 56 true (.call 438 [58]),sg 60 56 true (.bin .eql 59 (.c (.i .u8 111))),s 61 (.pick 56 60 (.c (.b false))),m 52 61])
 (.cond 52 (.seq (.reg [s 1 (.mv (k 8))])
 (.reg [m 62 0,s 63 (.sls 62 (some (k 2)) none),m 0 63])) (.seq (.reg [m 65 0,s 66 (.lens 65),s 67 (.bin .geq 66 (k 3)),m 68 67,sg 69 68 true (.mv 0),sg 70 68 true (.ixs 69 (k 1)),cg 71 68 true (.call 438 [70]),sg 72 68 true (.bin .eql 71 (.c (.i .u8 120))),s 73 (.pick 68 72 (.c (.b false))),m 64 73])
 (.cond 64 (.seq (.reg [s 1 (.mv (k 16))])
 (.reg [m 74 0,s 75 (.sls 74 (some (k 2)) none),m 0 75])) (.seq (.reg [s 1 (.mv (k 8))])
 (.reg [m 38 0,s 39 (.sls 38 (some (k 1)) none),m 0 39]))))))))) .skip))) (.seq (.reg [s 24 (.mkif 494 (k 3)),s 6 (.mv (.c (.i .u64 0))),m 7 24])
 .ret))))))
 (.seq (.seq (.reg [m 76 2,s 77 (.bin .eql 76 (k 0))])
 (.cond 77 (.reg [s 2 (.mv (k 64))]) (.seq (.reg [m 78 2,s 79 (.bin .lss 78 (k 0)),m 80 79,sg 81 80 false (.mv 2),sg 82 80 false (.bin .gtr 81 (k 64)),s 83 (.pick 80 (.c (.b true)) 82)])
 (.cond 83 (.seq (.reg [s 84 (.mkif 494 (k 4)),s 6 (.mv (.c (.i .u64 0))),m 7 84])
 .ret) .skip))))
 (.seq (.reg [s 10 (.mv (.c (.i .u64 0)))])
 (.seq (.seq (.reg [m 85 1])
 (.block 2 (.seq (.reg [s 91 (.bin .eql 85 (k 10)),m 90 91])
 (.cond 90 (.reg [s 10 (.mv (.c (.i .u64 1844674407370955162)))]) (.seq (.reg [s 93 (.bin .eql 85 (k 16)),m 92 93])
 (.cond 92 (.reg [s 10 (.mv (.c (.i .u64 1152921504606846976)))]) (.reg [m 86 1,s 87 (.cvi .u64 86),s 88 (.bin .quo (.c (.i .u64 18446744073709551615)) 87),s 89 (.bin .add 88 (.c (.i .u64 1))),m 10 89])))))))
 (.seq (.reg [m 94 2,s 95 (.cvi .u64 94),s 96 (.bin .shl (.c (.i .u64 1)) 95),s 97 (.bin .sub 96 (.c (.i .u64 1))),m 11 97])
 (.seq (.reg [s 12 (.mv (.c (.b false)))])
 (.seq (.reg [s 13 (.mv (.c (.i .u64 0)))])
 (.seq (.seq (.reg [m 98 0,e 99 (.s2b 98),s 100 (.len 99),s 101 (.mv (k 0))])
 (.block 3 (.loop (.seq (.reg [s 102 (.bin .lss 101 100)])
 (.seq (.cond 102 .skip (.exit 3))
 (.seq (.block 4 (.seq (.reg [s 103 (.ia 1 99 101),s 104 (.ld1 103),m 15 104])
 (.seq (.reg [s 16 (.mv (.c (.i .u8 0)))])
 (.seq (.block 5 (.seq (.reg [m 107 15,s 108 (.bin .eql 107 (.c (.i .u8 95))),m 109 108,sg 110 109 true (.mv 8),s 111 (.pick 109 110 (.c (.b false))),m 106 111])
 (.cond 106 (.seq (.reg [s 12 (.mv (.c (.b true)))])
 (.exit 4)) (.seq (.reg [m 113 15,s 114 (.bin .leq (.c (.i .u8 48)) 113),m 115 114,sg 116 115 true (.mv 15),sg 117 115 true (.bin .leq 116 (.c (.i .u8 57))),s 118 (.pick 115 117 (.c (.b false))),m 112 118])
 (.cond 112 (.reg [m 119 15,s 120 (.bin .sub 119 (.c (.i .u8 48))),m 16 120]) (.seq (.reg [m 122 15,c 123 (.call 438 [122]),s 124 (.bin .leq (.c (.i .u8 97)) 123),m 125 124,sg 126 125 true (.mv 15),cg 127 125 true (.call 438 [126]),sg 128 125 true (.bin .leq 127 (.c (.i .u8 122))),s 129 (.pick 125 128 (.c (.b false))),m 121 129])
 (.cond 121 (.reg [m 130 15,c 131 (.call 438 [130]),s 132 (.bin .sub 131 (.c (.i .u8 97))),s 133 (.bin .add 132 (.c (.i .u8 10))),m 16 133]) (.seq (.reg [s 105 (.mkif 494 (k 2)),s 6 (.mv (.c (.i .u64 0))),m 7 105])
 .ret))))))))
 (.seq (.seq (.reg [m 134 16,m 135 1,s 136 (.cvi .u8 135),s 137 (.bin .geq 134 136)])
 (.cond 137 (.seq (.reg [s 138 (.mkif 494 (k 2)),s 6 (.mv (.c (.i .u64 0))),m 7 138])
 .ret) .skip))
 (.seq (.seq (.reg [m 139 13,m 140 10,s 141 (.bin .geq 139 140)])
 (.cond 141 (.seq (.reg [m 142 11,s 143 (.mkif 494 (k 1)),m 6 142,m 7 143])
 .ret) .skip))
 (.seq (.reg [m 144 13,m 145 1,s 146 (.cvi .u64 145),s 147 (.bin .mul 144 146),m 13 147])
 (.seq (.reg [m 148 13,m 149 16,s 150 (.cvi .u64 149),s 151 (.bin .add 148 150),m 17 151])
 (.seq (.seq (.reg [m 152 17,m 153 13,s 154 (.bin .lss 152 153),m 155 154,sg 156 155 false (.mv 17),sg 157 155 false (.mv 11),sg 158 155 false (.bin .gtr 156 157),s 159 (.pick 155 (.c (.b true)) 158)])
 (.cond 159 (.seq (.reg [m 160 11,s 161 (.mkif 494 (k 1)),m 6 160,m 7 161])
 .ret) .skip))
 (.reg [m 162 17,m 13 162]))))))))))
 (.reg [s 163 (.bin .add 101 (k 1)),m 101 163])))))))
 (.seq (.seq (.reg [m 164 12,m 165 164,sg 166 165 true (.mv 9),cg 167 165 true (.call 439 [166]),sg 168 165 true (.un .not 167),s 169 (.pick 165 168 (.c (.b false)))])
 (.cond 169 (.seq (.reg [s 170 (.mkif 494 (k 2)),s 6 (.mv (.c (.i .u64 0))),m 7 170])
 .ret) .skip))
 (.seq (.reg [m 171 13,m 6 171,s 7 (.mv (.c .nif))])
 .ret)))))))))))))) [.t 6,.t 7]
def af407 : AFn := .code 15 (.seq (.reg [s 2 (.mv (.c (.s [])))])
 (.seq (.seq (.reg [m 3 0,s 4 (.bin .lss 3 (k 10))])
 (.cond 4 (.seq (.reg [m 5 0,m 6 0,s 7 (.bin .add 6 (k 1)),s 8 (.sls (.c (.s [48,49,50,51,52,53,54,55,56,57,97,98,99,100,101,102,103,104,105,106,107,108,109,110,111,112,113,114,115,116,117,118,119,120,121,122])) (some 5) (some 7)),m 2 8])
 .ret) .skip))
 (.seq (.reg [m 9 0,s 10 (.bin .mul 9 (k 2)),m 11 0,s 12 (.bin .mul 11 (k 2)),s 13 (.bin .add 12 (k 2)),s 14 (.sls (.c (.s [48,48,48,49,48,50,48,51,48,52,48,53,48,54,48,55,48,56,48,57,49,48,49,49,49,50,49,51,49,52,49,53,49,54,49,55,49,56,49,57,50,48,50,49,50,50,50,51,50,52,50,53,50,54,50,55,50,56,50,57,51,48,51,49,51,50,51,51,51,52,51,53,51,54,51,55,51,56,51,57,52,48,52,49,52,50,52,51,52,52,52,53,52,54,52,55,52,56,52,57,53,48,53,49,53,50,53,51,53,52,53,53,53,54,53,55,53,56,53,57,54,48,54,49,54,50,54,51,54,52,54,53,54,54,54,55,54,56,54,57,55,48,55,49,55,50,55,51,55,52,55,53,55,54,55,55,55,56,55,57,56,48,56,49,56,50,56,51,56,52,56,53,56,54,56,55,56,56,56,57,57,48,57,49,57,50,57,51,57,52,57,53,57,54,57,55,57,56,57,57])) (some 10) (some 13)),m 2 14])
 .ret))) [.t 2]
def af415 : AFn := .code 26 (.seq (.reg [s 8 (.mv (.c .sn))])
 (.seq (.seq (.reg [m 9 1,s 10 (.bin .lss 9 (k 0)),m 11 10,sg 12 11 false (.mv 1),sg 13 11 false (.bin .gtr 12 (k 1)),s 14 (.pick 11 (.c (.b true)) 13),m 15 14,sg 16 15 false (.mv 0),cg 17 15 false (.call 422 [16]),sg 18 15 false (.un .not 17),s 19 (.pick 15 (.c (.b true)) 18)])
 (.cond 19 (.seq (.reg [s 8 (.mv (.c .sn))])
 .ret) .skip))
 (.seq (.reg [m 20 1,m 21 2,m 22 3,s 23 (.build [(i 0),(i 0),(.b false)] [(0,1,20),(1,1,21),(2,1,22)]),m 24 0,c 25 (.call 447 [23,24]),m 8 25])
 .ret))) [.t 8]
def af416 : AFn := .code 13 (.seq (.reg [s 2 (.mv (.c (.b false)))])
 (.seq (.reg [s 3 (.mv (.c (.f (.func 448) [] [])))])
 (.seq (.reg [m 4 0,s 5 (.len 4),s 6 (.bin .leq 5 (k 1000)),m 7 6,sg 8 7 true (.mv 0),sg 9 7 true (.mv 3),cg 10 7 true (.call 449 [8,9]),sg 11 7 true (.un .not 10),s 12 (.pick 7 11 (.c (.b false))),m 2 12])
 .ret))) [.t 2]
def af417 : AFn := .code 14 (.seq (.reg [m 5 0,s 6 (.len 5),m 4 6])
 (.reg [m 7 0,m 8 4,m 9 4,s 10 (.cvi .u64 9),c 11 (.call 84 [10]),m 12 1,c 13 (.call 450 [7,(k 0),8,11,12])])) []
def af418 : AFn := .code 8 (.seq (.reg [f 2 (.box 0),f 3 (.box 1),s 4 (.mv (k 0))])
 (.seq (.dreg 0 [.st 0 (s 5 (.sla 2 1 2 none none)),
  .st 1 (s 6 (.sla 2 1 3 none none)),
  .ef 2 (c 7 (.call 451 [5,6])) [] [],
  .st 3 (m 4 7)])
 .ret)) [.t 4]
def af419 : AFn := .code 61 (.seq (.reg [s 2 (.mv (.c .sn))])
 (.seq (.seq (.reg [m 6 0,s 7 (.len 6),s 8 (.bin .lss 7 (k 2))])
 (.cond 8 (.seq (.reg [m 9 0,m 2 9])
 .ret) .skip))
 (.seq (.seq (.reg [s 3 (.mv (k 1))])
 (.block 0 (.loop (.seq (.seq (.reg [m 10 3,m 11 0,s 12 (.len 11),s 13 (.bin .lss 10 12)])
 (.cond 13 .skip (.exit 0)))
 (.seq (.block 1 (.seq (.dreg 0 [.st 0 (m 16 0),
  .st 1 (m 17 3),
  .st 2 (s 18 (.ia 2 16 17)),
  .st 3 (s 19 (.ldn 2 18)),
  .st 4 (m 20 0),
  .st 5 (m 21 3),
  .st 6 (s 22 (.bin .sub 21 (k 1))),
  .st 7 (s 23 (.ia 2 20 22)),
  .st 8 (s 24 (.ldn 2 23)),
  .st 9 (s 25 (.cmpA [.i64,.i64] false 19 24))])
 (.cond 25 (.seq (.reg [m 26 0,m 27 3,s 28 (.slc 2 26 (some 27) none none),m 4 28])
 (.seq (.seq (.reg [s 5 (.mv (k 1))])
 (.block 2 (.loop (.seq (.seq (.reg [m 29 5,m 30 4,s 31 (.len 30),s 32 (.bin .lss 29 31)])
 (.cond 32 .skip (.exit 2)))
 (.seq (.block 3 (.seq (.dreg 0 [.st 0 (m 35 4),
  .st 1 (m 36 5),
  .st 2 (s 37 (.ia 2 35 36)),
  .st 3 (s 38 (.ldn 2 37)),
  .st 4 (m 39 4),
  .st 5 (m 40 5),
  .st 6 (s 41 (.bin .sub 40 (k 1))),
  .st 7 (s 42 (.ia 2 39 41)),
  .st 8 (s 43 (.ldn 2 42)),
  .st 9 (s 44 (.cmpA [.i64,.i64] true 38 43))])
 (.cond 44 (.seq (.reg [m 45 0,m 46 3,m 47 4,m 48 5,s 49 (.ia 2 47 48),s 50 (.ldn 2 49),s 51 (.ia 2 45 46),st 2 51 50])
 (.reg [m 52 3,s 53 (.bin .add 52 (k 1)),m 3 53])) .skip)))
 (.reg [m 33 5,s 34 (.bin .add 33 (k 1)),m 5 34]))))))
 (.seq .bad
 (.seq (.reg [m 57 0,m 58 3,s 59 (.slc 2 57 none (some 58) none),m 2 59])
 .ret)))) .skip)))
 (.reg [m 14 3,s 15 (.bin .add 14 (k 1)),m 3 15]))))))
 (.seq (.reg [m 60 0,m 2 60])
 .ret)))) [.t 2]
def af420 : AFn := .code 47 (.seq (.reg [s 2 (.mv (.c .sn))])
 (.seq (.reg [s 3 (.mv (.c .sn))])
 (.seq (.seq (.reg [m 6 0,s 7 (.len 6),s 8 (.mv (k 0))])
 (.block 0 (.loop (.seq (.reg [s 9 (.bin .lss 8 7)])
 (.seq (.cond 9 .skip (.exit 0))
 (.seq (.block 1 (.seq (.reg [s 10 (.ia 2 6 8),s 11 (.ldn 2 10),f 5 (.alloc [(i 0),(i 0)]),st 2 5 11])
 (.seq (.block 2 (.loop (.seq (.seq (.dreg 0 [.st 0 (m 12 3),
  .st 1 (s 13 (.len 12)),
  .st 2 (s 14 (.bin .gtr 13 (k 1))),
  .st 3 (m 15 14),
  .st 4 (sg 16 15 true (.mv 3)),
  .st 5 (sg 17 15 true (.mv 3)),
  .st 6 (sg 18 15 true (.len 17)),
  .st 7 (sg 19 15 true (.bin .sub 18 (k 2))),
  .st 8 (sg 20 15 true (.ia 2 16 19)),
  .st 9 (sg 21 15 true (.ldn 2 20)),
  .st 10 (sg 22 15 true (.mv 3)),
  .st 11 (sg 23 15 true (.mv 3)),
  .st 12 (sg 24 15 true (.len 23)),
  .st 13 (sg 25 15 true (.bin .sub 24 (k 1))),
  .st 14 (sg 26 15 true (.ia 2 22 25)),
  .st 15 (sg 27 15 true (.ldn 2 26)),
  .st 16 (sg 28 15 true (.ldn 2 5)),
  .ef 17 (cg 29 15 true (.call 452 [21,27,28])) [] [],
  .st 18 (sg 30 15 true (.bin .leq 29 (k 0))),
  .st 19 (s 31 (.pick 15 30 (.c (.b false))))])
 (.cond 31 .skip (.exit 2)))
 (.block 3 (.reg [m 32 3,m 33 3,s 34 (.len 33),s 35 (.bin .sub 34 (k 1)),s 36 (.slc 2 32 none (some 35) none),m 3 36])))))
 (.reg [m 37 3,s 38 (.ldn 2 5),f 39 (.bsl 2 1 [(i 0),(i 0)] [(0,2,38)]),e 40 (.app 2 16 37 39),m 3 40]))))
 (.reg [s 41 (.bin .add 8 (k 1)),m 8 41])))))))
 (.seq (.reg [m 42 3,m 43 3,s 44 (.len 43),s 45 (.bin .sub 44 (k 1)),s 46 (.slc 2 42 none (some 45) none),m 2 46])
 .ret)))) [.t 2]
def af421 : AFn := .code 28 (.seq (.reg [m 4 0,s 5 (.len 4),s 6 (.bin .sub 5 (k 1)),s 2 (.mv (k 0)),m 3 6])
 (.block 0 (.loop (.seq (.seq (.reg [m 7 2,m 8 3,s 9 (.bin .lss 7 8)])
 (.cond 9 .skip (.exit 0)))
 (.seq (.block 1 (.dreg 0 [.st 0 (m 14 0),
  .st 1 (m 15 2),
  .st 2 (m 16 0),
  .st 3 (m 17 3),
  .st 4 (m 18 0),
  .st 5 (m 19 3),
  .st 6 (s 20 (.ia 2 18 19)),
  .st 7 (s 21 (.ldn 2 20)),
  .st 8 (m 22 0),
  .st 9 (m 23 2),
  .st 10 (s 24 (.ia 2 22 23)),
  .st 11 (s 25 (.ldn 2 24)),
  .st 12 (s 26 (.ia 2 14 15)),
  .ef 13 (st 2 26 21) [] [],
  .st 14 (s 27 (.ia 2 16 17)),
  .ef 15 (st 2 27 25) [] []]))
 (.reg [m 10 2,s 11 (.bin .add 10 (k 1)),m 12 3,s 13 (.bin .sub 12 (k 1)),m 2 11,m 3 13])))))) []
def af422 : AFn := .code 60 (.seq (.reg [s 2 (.mv (.c (.b false)))])
 (.seq (.seq (.reg [m 8 0,s 9 (.len 8),s 10 (.bin .gtr 9 (k 100))])
 (.cond 10 (.seq (.reg [s 2 (.mv (.c (.b false)))])
 .ret) .skip))
 (.seq (.seq (.reg [s 11 (.mv (k 0))])
 (.block 0 (.loop (.seq (.reg [s 12 (.bin .lss 11 (k 2))])
 (.seq (.cond 12 .skip (.exit 0))
 (.seq (.block 1 (.seq (.reg [m 13 11,m 3 13])
 (.seq (.reg [m 14 0,s 15 (.len 14),s 16 (.mv (k 0))])
 (.block 2 (.loop (.seq (.reg [s 17 (.bin .lss 16 15)])
 (.seq (.cond 17 .skip (.exit 2))
 (.seq (.block 3 (.seq (.reg [m 18 16,s 19 (.ia 2 14 16),s 20 (.ldn 2 19),f 5 (.alloc [(i 0),(i 0)]),m 4 18,st 2 5 20])
 (.seq (.seq (.reg [m 21 3,s 22 (.iaa 2 1 5 21),s 23 (.ld1 22),s 24 (.bin .lss 23 (.c (.i .i64 (-1099511627776)))),m 25 24,sg 26 25 false (.mv 3),sg 27 25 false (.iaa 2 1 5 26),sg 28 25 false (.ld1 27),sg 29 25 false (.bin .gtr 28 (k 1099511627776)),s 30 (.pick 25 (.c (.b true)) 29)])
 (.cond 30 (.seq (.reg [s 2 (.mv (.c (.b false)))])
 .ret) .skip))
 (.seq (.reg [m 31 0,m 32 4,s 33 (.slc 2 31 none (some 32) none),s 34 (.len 33),s 35 (.mv (k 0))])
 (.block 4 (.loop (.seq (.reg [s 36 (.bin .lss 35 34)])
 (.seq (.cond 36 .skip (.exit 4))
 (.seq (.block 5 (.seq (.reg [s 37 (.ia 2 33 35),s 38 (.ldn 2 37),f 7 (.alloc [(i 0),(i 0)]),st 2 7 38])
 (.seq (.dreg 0 [.st 0 (m 39 3),
  .st 1 (s 40 (.iaa 2 1 5 39)),
  .st 2 (s 41 (.ld1 40)),
  .st 3 (m 42 3),
  .st 4 (s 43 (.iaa 2 1 7 42)),
  .st 5 (s 44 (.ld1 43)),
  .st 6 (s 45 (.bin .sub 41 44)),
  .st 7 (s 46 (.bin .gtr 45 (k 1073741824))),
  .st 8 (m 47 46),
  .st 9 (sg 48 47 false (.mv 3)),
  .st 10 (sg 49 47 false (.iaa 2 1 7 48)),
  .st 11 (sg 50 47 false (.ld1 49)),
  .st 12 (sg 51 47 false (.mv 3)),
  .st 13 (sg 52 47 false (.iaa 2 1 5 51)),
  .st 14 (sg 53 47 false (.ld1 52)),
  .st 15 (sg 54 47 false (.bin .sub 50 53)),
  .st 16 (sg 55 47 false (.bin .gtr 54 (k 1073741824))),
  .st 17 (s 56 (.pick 47 (.c (.b true)) 55))])
 (.cond 56 (.seq (.reg [s 2 (.mv (.c (.b false)))])
 .ret) .skip))))
 (.reg [s 57 (.bin .add 35 (k 1)),m 35 57]))))))))))
 (.reg [s 58 (.bin .add 16 (k 1)),m 16 58])))))))))
 (.reg [s 59 (.bin .add 11 (k 1)),m 11 59])))))))
 (.seq (.reg [s 2 (.mv (.c (.b true)))])
 .ret)))) [.t 2]
def af423 : AFn := .code 8 (.seq (.reg [s 2 (.mv (.c .pn))])
 (.seq (.reg [f 3 (.bsl 1 0 [] []),m 4 0,e 5 (.app 1 1 3 4),s 6 (.build [.sn] [(0,1,5)]),f 7 (.box 6),m 2 7])
 .ret)) [.t 2]
def af424 : AFn := .code 9 (.seq (.reg [s 2 (.mv (.c (.b false)))])
 (.seq (.reg [m 3 0,s 4 (.bin .geq 3 (k 1)),m 5 4,sg 6 5 true (.mv 0),sg 7 5 true (.bin .leq 6 (k 1000)),s 8 (.pick 5 7 (.c (.b false))),m 2 8])
 .ret)) [.t 2]
def af425 : AFn := .code 32 (.seq (.block 0 (.loop (.seq (.seq (.reg [m 4 1,s 5 (.bin .gtr 4 (.c (.i .u64 127)))])
 (.cond 5 .skip (.exit 0)))
 (.block 1 (.seq (.reg [m 6 0,m 7 0,s 8 (.nilc 7),s 9 (.fa 0 8),s 10 (.ld1 9),m 11 1,s 12 (.bin .and 11 (.c (.i .u64 127))),s 13 (.cvi .u8 12),s 14 (.bin .or 13 (.c (.i .u8 128))),f 15 (.bsl 1 1 [(.i .u8 0)] [(0,1,14)]),e 16 (.app 1 1 10 15),s 17 (.nilc 6),s 18 (.fa 0 17),st 1 18 16])
 (.reg [m 19 1,s 20 (.bin .shr 19 (.c (.i .u64 7))),m 1 20]))))))
 (.reg [m 21 0,m 22 0,s 23 (.nilc 22),s 24 (.fa 0 23),s 25 (.ld1 24),m 26 1,s 27 (.cvi .u8 26),f 28 (.bsl 1 1 [(.i .u8 0)] [(0,1,27)]),e 29 (.app 1 1 25 28),s 30 (.nilc 21),s 31 (.fa 0 30),st 1 31 29])) []
def af426 : AFn := .code 29 (.seq (.reg [s 6 (.mv (.c .sn))])
 (.seq (.reg [s 10 (.build [.sn] []),f 11 (.box 10),m 7 11])
 (.seq (.seq (.reg [m 12 2,s 13 (.len 12),s 14 (.mv (k 0))])
 (.block 0 (.loop (.seq (.reg [s 15 (.bin .lss 14 13)])
 (.seq (.cond 15 .skip (.exit 0))
 (.seq (.block 1 (.seq (.reg [s 16 (.ia 1 12 14),s 17 (.ld1 16),m 9 17])
 (.reg [m 18 7,m 19 9,c 20 (.call 425 [18,19])])))
 (.reg [s 21 (.bin .add 14 (k 1)),m 14 21])))))))
 (.seq (.reg [m 22 0,m 23 1,m 24 7,s 25 (.nilc 24),s 26 (.fa 0 25),s 27 (.ld1 26),c 28 (.call 385 [22,23,27]),m 6 28])
 .ret)))) [.t 6]
def af427 : AFn := .code 59 (.seq (.reg [s 2 (.mv (.c .sn))])
 (.seq (.seq (.reg [m 6 0,s 7 (.len 6),s 8 (.bin .lss 7 (k 3))])
 (.cond 8 (.seq (.reg [s 2 (.mv (.c .sn))])
 .ret) .skip))
 (.seq (.dreg 1 [.st 0 (m 9 0),
  .st 1 (s 10 (.ia 2 9 (k 0))),
  .st 2 (s 11 (.iaa 2 1 10 (k 0))),
  .st 3 (s 12 (.ld1 11)),
  .st 5 (m 14 0),
  .st 6 (s 15 (.ia 2 14 (k 0))),
  .st 7 (s 16 (.iaa 2 1 15 (k 1))),
  .st 8 (s 17 (.ld1 16)),
  .st 10 (m 19 0),
  .st 11 (s 20 (.len 19)),
  .st 12 (s 21 (.bin .sub 20 (k 1))),
  .st 13 (s 22 (.bin .mul (k 8) 21)),
  .st 14 (s 23 (.bin .add 22 (k 2))),
  .st 15 (s 24 (.cvi .u64 23)),
  .ef 4 (c 13 (.call 387 [12])) [] [s 17 (.ld1 16)],
  .ef 9 (c 18 (.call 387 [17])) [] [],
  .fl 16 (f 25 (.bsl 1 4 [(.i .u64 0),(.i .u64 0),(.i .u64 0),(.i .u64 0)] [(0,1,(.c (.i .u64 9))),(1,1,13),(2,1,18),(3,1,24)])) 0,
  .st 17 (m 3 25)])
 (.seq (.seq (.reg [m 26 0,s 27 (.slc 2 26 (some (k 1)) none none),s 28 (.len 27),s 29 (.mv (k 0))])
 (.block 0 (.loop (.seq (.reg [s 30 (.bin .lss 29 28)])
 (.seq (.cond 30 .skip (.exit 0))
 (.seq (.block 1 (.seq (.reg [m 31 29,s 32 (.ia 2 27 29),s 33 (.ldn 2 32),f 5 (.alloc [(i 0),(i 0)]),m 4 31,st 2 5 33])
 (.dreg 1 [.st 0 (m 34 3),
  .st 1 (s 35 (.iaa 2 1 5 (k 0))),
  .st 2 (s 36 (.ld1 35)),
  .st 3 (m 37 0),
  .st 4 (m 38 4),
  .st 5 (s 39 (.ia 2 37 38)),
  .st 6 (s 40 (.iaa 2 1 39 (k 0))),
  .st 7 (s 41 (.ld1 40)),
  .st 8 (s 42 (.bin .sub 36 41)),
  .st 10 (s 44 (.iaa 2 1 5 (k 1))),
  .st 11 (s 45 (.ld1 44)),
  .st 12 (m 46 0),
  .st 13 (m 47 4),
  .st 14 (s 48 (.ia 2 46 47)),
  .st 15 (s 49 (.iaa 2 1 48 (k 1))),
  .st 16 (s 50 (.ld1 49)),
  .st 17 (s 51 (.bin .sub 45 50)),
  .ef 9 (c 43 (.call 387 [42])) [] [s 45 (.ld1 44),s 50 (.ld1 49)],
  .ef 18 (c 52 (.call 387 [51])) [] [],
  .fl 19 (f 53 (.bsl 1 2 [(.i .u64 0),(.i .u64 0)] [(0,1,43),(1,1,52)])) 0,
  .ef 20 (e 54 (.app 1 8 34 53)) [0] [],
  .st 21 (m 3 54)])))
 (.reg [s 55 (.bin .add 29 (k 1)),m 29 55])))))))
 (.seq (.reg [m 56 3,f 57 (.bsl 1 1 [(.i .u64 0)] [(0,1,(.c (.i .u64 15)))]),e 58 (.app 1 8 56 57),m 2 58])
 .ret))))) [.t 2]
def af434 : AFn := .code 8 (.seq (.reg [s 4 (.mv (k 0))])
 (.seq (.reg [m 5 0,m 6 1,c 7 (.call 455 [5,6]),m 4 7])
 .ret)) [.t 4]
def af447 : AFn := .code 44 (.seq (.reg [f 2 (.box 0),s 4 (.mv (.c .sn))])
 (.seq (.reg [s 5 (.mv (.c .sn))])
 (.seq (.seq (.reg [m 9 1,s 10 (.len 9),s 11 (.mv (k 0))])
 (.block 0 (.loop (.seq (.reg [s 12 (.bin .lss 11 10)])
 (.seq (.cond 12 .skip (.exit 0))
 (.seq (.block 1 (.seq (.reg [m 13 11,s 14 (.ia 2 9 11),s 15 (.ldn 2 14),f 7 (.alloc [(i 0),(i 0)]),m 6 13,st 2 7 15])
 (.seq (.reg [m 16 1,m 17 6,s 18 (.bin .add 17 (k 1)),m 19 1,s 20 (.len 19),s 21 (.bin .rem 18 20),s 22 (.ia 2 16 21),s 23 (.ldn 2 22),f 8 (.alloc [(i 0),(i 0)]),st 2 8 23])
 (.seq (.seq (.reg [s 24 (.ldn 3 2),s 25 (.ldn 2 7),c 26 (.call 460 [24,25])])
 (.cond 26 (.reg [m 27 5,s 28 (.ldn 2 7),f 29 (.bsl 2 1 [(i 0),(i 0)] [(0,2,28)]),e 30 (.app 2 16 27 29),m 5 30]) .skip))
 (.seq (.reg [s 31 (.ldn 3 2),s 32 (.ldn 2 7),s 33 (.ldn 2 8),c 34 (.call 461 [31,32,33])])
 (.cond 34 (.reg [m 35 5,s 36 (.ldn 3 2),s 37 (.ldn 2 7),s 38 (.ldn 2 8),c 39 (.call 462 [36,37,38]),f 40 (.bsl 2 1 [(i 0),(i 0)] [(0,2,39)]),e 41 (.app 2 16 35 40),m 5 41]) .skip))))))
 (.reg [s 42 (.bin .add 11 (k 1)),m 11 42])))))))
 (.seq (.reg [m 43 5,m 4 43])
 .ret)))) [.t 4]
def af448 : AFn := .code 21 (.seq (.reg [f 1 (.box 0),s 2 (.mv (.c (.b false)))])
 (.seq (.reg [s 3 (.iaa 2 1 1 (k 0)),s 4 (.ld1 3),s 5 (.bin .lss 4 (.c (.i .i64 (-536870912)))),m 6 5,sg 7 6 false (.iaa 2 1 1 (k 0)),sg 8 6 false (.ld1 7),sg 9 6 false (.bin .gtr 8 (k 536870912)),s 10 (.pick 6 (.c (.b true)) 9),m 11 10,sg 12 11 false (.iaa 2 1 1 (k 1)),sg 13 11 false (.ld1 12),sg 14 11 false (.bin .lss 13 (.c (.i .i64 (-536870912)))),s 15 (.pick 11 (.c (.b true)) 14),m 16 15,sg 17 16 false (.iaa 2 1 1 (k 1)),sg 18 16 false (.ld1 17),sg 19 16 false (.bin .gtr 18 (k 536870912)),s 20 (.pick 16 (.c (.b true)) 19),m 2 20])
 .ret)) [.t 2]
def af449 : AFn := .code 9 (.seq (.reg [s 4 (.mv (.c (.b false)))])
 (.seq (.reg [m 5 0,m 6 1,c 7 (.call 463 [5,6]),s 8 (.bin .geq 7 (k 0)),m 4 8])
 .ret)) [.t 4]
def af450 : AFn := .code 148 (.seq (.reg [s 10 (.mv (.c (.b true)))])
 (.seq (.reg [s 11 (.mv (.c (.b true)))])
 (.block 0 (.loop (.block 1 (.seq (.reg [m 21 2,m 22 1,s 23 (.bin .sub 21 22),m 12 23])
 (.seq (.seq (.reg [m 24 12,s 25 (.bin .leq 24 (k 12))])
 (.cond 25 (.seq (.reg [m 26 0,m 27 1,m 28 2,m 29 4,c 30 (.call 464 [26,27,28,29])])
 .ret) .skip))
 (.seq (.seq (.reg [m 31 3,s 32 (.bin .eql 31 (k 0))])
 (.cond 32 (.seq (.reg [m 33 0,m 34 1,m 35 2,m 36 4,c 37 (.call 465 [33,34,35,36])])
 .ret) .skip))
 (.seq (.seq (.reg [m 38 10,s 39 (.un .not 38)])
 (.cond 39 (.seq (.reg [m 40 0,m 41 1,m 42 2,m 43 4,c 44 (.call 466 [40,41,42,43])])
 (.reg [m 45 3,s 46 (.bin .sub 45 (k 1)),m 3 46])) .skip))
 (.seq (.reg [m 48 0,m 49 1,m 50 2,m 51 4,c 52 (.call 467 [48,49,50,51]),m 47 52,s 53 (.ext 47 0),s 54 (.ext 47 1),m 13 53,m 14 54])
 (.seq (.seq (.reg [m 55 14,s 56 (.bin .eql 55 (k 2))])
 (.cond 56 (.seq (.reg [m 57 0,m 58 1,m 59 2,m 60 4,c 61 (.call 468 [57,58,59,60])])
 (.seq (.reg [m 62 2,s 63 (.bin .sub 62 (k 1)),m 64 13,m 65 1,s 66 (.bin .sub 64 65),s 67 (.bin .sub 63 66),m 13 67])
 (.reg [s 14 (.mv (k 1))]))) .skip))
 (.seq (.seq (.reg [m 68 10,m 69 68,sg 70 69 true (.mv 11),s 71 (.pick 69 70 (.c (.b false))),m 72 71,sg 73 72 true (.mv 14),sg 74 72 true (.bin .eql 73 (k 1)),s 75 (.pick 72 74 (.c (.b false)))])
 (.cond 75 (.seq (.reg [m 76 0,m 77 1,m 78 2,m 79 4,c 80 (.call 469 [76,77,78,79])])
 (.cond 80 .ret .skip)) .skip))
 (.seq (.seq (.dreg 0 [.st 0 (m 81 1),
  .st 1 (s 82 (.bin .gtr 81 (k 0))),
  .st 2 (m 83 82),
  .st 3 (sg 84 83 true (.mv 4)),
  .st 4 (sg 85 83 true (.mv 0)),
  .st 5 (sg 86 83 true (.mv 1)),
  .st 6 (sg 87 83 true (.bin .sub 86 (k 1))),
  .st 7 (sg 88 83 true (.ia 2 85 87)),
  .st 8 (sg 89 83 true (.ldn 2 88)),
  .st 9 (sg 90 83 true (.mv 0)),
  .st 10 (sg 91 83 true (.mv 13)),
  .st 11 (sg 92 83 true (.ia 2 90 91)),
  .st 12 (sg 93 83 true (.ldn 2 92)),
  .ef 13 (cg 94 83 true (.dyn 84 [89,93])) [] [],
  .st 14 (sg 95 83 true (.bin .lss 94 (k 0))),
  .st 15 (sg 96 83 true (.un .not 95)),
  .st 16 (s 97 (.pick 83 96 (.c (.b false))))])
 (.cond 97 (.seq (.reg [m 98 0,m 99 1,m 100 2,m 101 13,m 102 4,c 103 (.call 470 [98,99,100,101,102]),m 15 103])
 (.seq (.reg [m 104 15,m 1 104])
 (.exit 1))) .skip))
 (.seq (.reg [m 106 0,m 107 1,m 108 2,m 109 13,m 110 4,c 111 (.call 471 [106,107,108,109,110]),m 105 111,s 112 (.ext 105 0),s 113 (.ext 105 1),m 16 112,m 17 113])
 (.seq (.reg [m 114 17,m 11 114])
 (.seq (.reg [m 115 16,m 116 1,s 117 (.bin .sub 115 116),m 118 2,m 119 16,s 120 (.bin .sub 118 119),m 18 117,m 19 120])
 (.seq (.reg [m 121 12,s 122 (.bin .quo 121 (k 8)),m 20 122])
 (.seq (.reg [m 123 18,m 124 19,s 125 (.bin .lss 123 124)])
 (.cond 125 (.seq (.reg [m 126 18,m 127 20,s 128 (.bin .geq 126 127),m 10 128])
 (.seq (.reg [m 129 0,m 130 1,m 131 16,m 132 3,m 133 4,c 134 (.call 450 [129,130,131,132,133])])
 (.reg [m 135 16,s 136 (.bin .add 135 (k 1)),m 1 136]))) (.seq (.reg [m 137 19,m 138 20,s 139 (.bin .geq 137 138),m 10 139])
 (.seq (.reg [m 140 0,m 141 16,s 142 (.bin .add 141 (k 1)),m 143 2,m 144 3,m 145 4,c 146 (.call 450 [140,142,143,144,145])])
 (.reg [m 147 16,m 2 147])))))))))))))))))))))) []
def af451 : AFn := .code 36 (.seq (.reg [s 4 (.mv (k 0))])
 (.seq (.seq (.reg [m 9 0,s 10 (.len 9),s 11 (.mv (k 0))])
 (.block 0 (.loop (.seq (.reg [s 12 (.bin .lss 11 10)])
 (.seq (.cond 12 .skip (.exit 0))
 (.seq (.block 1 (.seq (.reg [m 13 11,s 14 (.ia 1 9 11),s 15 (.ld1 14),m 5 13,m 6 15])
 (.seq (.seq (.reg [m 16 5,m 17 1,s 18 (.len 17),s 19 (.bin .geq 16 18)])
 (.cond 19 (.seq (.reg [s 4 (.mv (k 1))])
 .ret) .skip))
 (.seq (.reg [m 20 1,m 21 5,s 22 (.ia 1 20 21),s 23 (.ld1 22),m 7 23])
 (.seq (.reg [m 24 6,m 25 7,c 26 (.call 472 [24,25]),m 8 26])
 (.seq (.reg [m 27 8,s 28 (.bin .neq 27 (k 0))])
 (.cond 28 (.seq (.reg [m 29 8,m 4 29])
 .ret) .skip)))))))
 (.reg [s 30 (.bin .add 11 (k 1)),m 11 30])))))))
 (.seq (.seq (.reg [m 31 0,s 32 (.len 31),m 33 1,s 34 (.len 33),s 35 (.bin .lss 32 34)])
 (.cond 35 (.seq (.reg [s 4 (.mv (.c (.i .i64 (-1))))])
 .ret) .skip))
 (.seq (.reg [s 4 (.mv (k 0))])
 .ret)))) [.t 4]
def af452 : AFn := .code 30 (.seq (.reg [f 3 (.box 0),f 4 (.box 1),f 5 (.box 2),s 6 (.mv (k 0))])
 (.seq (.reg [s 7 (.iaa 2 1 4 (k 0)),s 8 (.ld1 7),s 9 (.iaa 2 1 3 (k 0)),s 10 (.ld1 9),s 11 (.bin .sub 8 10),s 12 (.iaa 2 1 5 (k 1)),s 13 (.ld1 12),s 14 (.iaa 2 1 3 (k 1)),s 15 (.ld1 14),s 16 (.bin .sub 13 15),s 17 (.bin .mul 11 16),s 18 (.iaa 2 1 4 (k 1)),s 19 (.ld1 18),s 20 (.iaa 2 1 3 (k 1)),s 21 (.ld1 20),s 22 (.bin .sub 19 21),s 23 (.iaa 2 1 5 (k 0)),s 24 (.ld1 23),s 25 (.iaa 2 1 3 (k 0)),s 26 (.ld1 25),s 27 (.bin .sub 24 26),s 28 (.bin .mul 22 27),s 29 (.bin .sub 17 28),m 6 29])
 .ret)) [.t 6]
def af460 : AFn := .code 21 (.seq (.reg [f 2 (.box 0),f 3 (.box 1),s 4 (.mv (.c (.b false)))])
 (.seq (.seq (.reg [s 5 (.fa 2 2),s 6 (.ld1 5)])
 (.cond 6 (.seq (.dreg 0 [.st 0 (s 7 (.fa 0 2)),
  .st 1 (s 8 (.ld1 7)),
  .st 2 (s 9 (.iaa 2 1 3 8)),
  .st 3 (s 10 (.ld1 9)),
  .st 4 (s 11 (.fa 1 2)),
  .st 5 (s 12 (.ld1 11)),
  .st 6 (s 13 (.bin .geq 10 12)),
  .st 7 (m 4 13)])
 .ret) .skip))
 (.seq (.dreg 0 [.st 0 (s 14 (.fa 0 2)),
  .st 1 (s 15 (.ld1 14)),
  .st 2 (s 16 (.iaa 2 1 3 15)),
  .st 3 (s 17 (.ld1 16)),
  .st 4 (s 18 (.fa 1 2)),
  .st 5 (s 19 (.ld1 18)),
  .st 6 (s 20 (.bin .leq 17 19)),
  .st 7 (m 4 20)])
 .ret))) [.t 4]
def af461 : AFn := .code 39 (.seq (.reg [f 3 (.box 0),f 4 (.box 1),f 5 (.box 2),s 6 (.mv (.c (.b false)))])
 (.seq (.dreg 0 [.st 0 (s 9 (.fa 0 3)),
  .st 1 (s 10 (.ld1 9)),
  .st 2 (s 11 (.iaa 2 1 4 10)),
  .st 3 (s 12 (.ld1 11)),
  .st 4 (s 13 (.fa 0 3)),
  .st 5 (s 14 (.ld1 13)),
  .st 6 (s 15 (.iaa 2 1 5 14)),
  .st 7 (s 16 (.ld1 15)),
  .st 8 (m 7 12),
  .st 9 (m 8 16)])
 (.seq (.reg [m 17 7,s 18 (.fa 1 3),s 19 (.ld1 18),s 20 (.bin .lss 17 19),m 21 20,sg 22 21 true (.fa 1 3),sg 23 21 true (.ld1 22),sg 24 21 true (.mv 8),sg 25 21 true (.bin .lss 23 24),s 26 (.pick 21 25 (.c (.b false))),m 27 26,sg 28 27 false (.mv 8),sg 29 27 false (.fa 1 3),sg 30 27 false (.ld1 29),sg 31 27 false (.bin .lss 28 30),sg 32 27 false (.mv 31),sg 33 32 true (.fa 1 3),sg 34 32 true (.ld1 33),sg 35 32 true (.mv 7),sg 36 32 true (.bin .lss 34 35),sg 37 27 false (.pick 32 36 (.c (.b false))),s 38 (.pick 27 (.c (.b true)) 37),m 6 38])
 .ret))) [.t 6]
def af463 : AFn := .code 19 (.seq (.reg [s 4 (.mv (k 0))])
 (.seq (.seq (.reg [m 6 0,s 7 (.len 6),s 8 (.mv (k 0))])
 (.block 0 (.loop (.seq (.reg [s 9 (.bin .lss 8 7)])
 (.seq (.cond 9 .skip (.exit 0))
 (.seq (.block 1 (.seq (.reg [m 10 8,m 5 10])
 (.seq (.reg [m 11 1,m 12 0,m 13 5,s 14 (.ia 2 12 13),s 15 (.ldn 2 14),c 16 (.dyn 11 [15])])
 (.cond 16 (.seq (.reg [m 17 5,m 4 17])
 .ret) .skip))))
 (.reg [s 18 (.bin .add 8 (k 1)),m 8 18])))))))
 (.seq (.reg [s 4 (.mv (.c (.i .i64 (-1))))])
 .ret))) [.t 4]
def af464 : AFn := .code 53 (.seq (.reg [m 10 1,s 11 (.bin .add 10 (k 1)),m 8 11])
 (.block 0 (.loop (.seq (.seq (.reg [m 12 8,m 13 2,s 14 (.bin .lss 12 13)])
 (.cond 14 .skip (.exit 0)))
 (.seq (.block 1 (.seq (.reg [m 17 8,m 9 17])
 (.block 2 (.loop (.seq (.seq (.dreg 0 [.st 0 (m 18 9),
  .st 1 (m 19 1),
  .st 2 (s 20 (.bin .gtr 18 19)),
  .st 3 (m 21 20),
  .st 4 (sg 22 21 true (.mv 3)),
  .st 5 (sg 23 21 true (.mv 0)),
  .st 6 (sg 24 21 true (.mv 9)),
  .st 7 (sg 25 21 true (.ia 2 23 24)),
  .st 8 (sg 26 21 true (.ldn 2 25)),
  .st 9 (sg 27 21 true (.mv 0)),
  .st 10 (sg 28 21 true (.mv 9)),
  .st 11 (sg 29 21 true (.bin .sub 28 (k 1))),
  .st 12 (sg 30 21 true (.ia 2 27 29)),
  .st 13 (sg 31 21 true (.ldn 2 30)),
  .ef 14 (cg 32 21 true (.dyn 22 [26,31])) [] [],
  .st 15 (sg 33 21 true (.bin .lss 32 (k 0))),
  .st 16 (s 34 (.pick 21 33 (.c (.b false))))])
 (.cond 34 .skip (.exit 2)))
 (.seq (.block 3 (.dreg 0 [.st 0 (m 37 0),
  .st 1 (m 38 9),
  .st 2 (m 39 0),
  .st 3 (m 40 9),
  .st 4 (s 41 (.bin .sub 40 (k 1))),
  .st 5 (m 42 0),
  .st 6 (m 43 9),
  .st 7 (s 44 (.bin .sub 43 (k 1))),
  .st 8 (s 45 (.ia 2 42 44)),
  .st 9 (s 46 (.ldn 2 45)),
  .st 10 (m 47 0),
  .st 11 (m 48 9),
  .st 12 (s 49 (.ia 2 47 48)),
  .st 13 (s 50 (.ldn 2 49)),
  .st 14 (s 51 (.ia 2 37 38)),
  .ef 15 (st 2 51 46) [] [],
  .st 16 (s 52 (.ia 2 39 41)),
  .ef 17 (st 2 52 50) [] []]))
 (.reg [m 35 9,s 36 (.bin .sub 35 (k 1)),m 9 36])))))))
 (.reg [m 15 8,s 16 (.bin .add 15 (k 1)),m 8 16])))))) []
def af472 : AFn := .code 20 (.seq (.reg [s 4 (.mv (k 0))])
 (.seq (.reg [m 7 0,c 8 (.call 476 [7]),m 5 8])
 (.seq (.reg [m 9 1,c 10 (.call 476 [9]),m 6 10])
 (.seq (.seq (.reg [m 11 5])
 (.cond 11 (.seq (.seq (.reg [m 12 6])
 (.cond 12 (.seq (.reg [s 4 (.mv (k 0))])
 .ret) .skip))
 (.seq (.reg [s 4 (.mv (.c (.i .i64 (-1))))])
 .ret)) .skip))
 (.seq (.seq (.reg [m 13 6])
 (.cond 13 (.seq (.reg [s 4 (.mv (k 1))])
 .ret) .skip))
 (.seq (.seq (.reg [m 14 0,m 15 1,s 16 (.bin .lss 14 15)])
 (.cond 16 (.seq (.reg [s 4 (.mv (.c (.i .i64 (-1))))])
 .ret) .skip))
 (.seq (.seq (.reg [m 17 0,m 18 1,s 19 (.bin .gtr 17 18)])
 (.cond 19 (.seq (.reg [s 4 (.mv (k 1))])
 .ret) .skip))
 (.seq (.reg [s 4 (.mv (k 0))])
 .ret)))))))) [.t 4]
def af476 : AFn := .code 6 (.seq (.reg [s 2 (.mv (.c (.b false)))])
 (.seq (.reg [m 3 0,m 4 0,s 5 (.bin .neq 3 4),m 2 5])
 .ret)) [.t 2]
def af504 : AFn := .code 5 (.seq (.reg [s 2 (.mv (k 0))])
 (.seq (.reg [m 3 0,s 4 (.len 3),m 2 4])
 .ret)) [.t 2]
def af512 : AFn := .code 20 (.seq (.reg [m 7 1,s 8 (.tas 431 7),m 6 8,s 9 (.ext 6 0),s 10 (.ext 6 1),m 4 9,m 5 10])
 (.seq (.reg [m 11 5])
 (.cond 11 (.reg [m 12 0,m 13 0,s 14 (.nilc 13),s 15 (.ld1 14),m 16 4,f 17 (.bsl 1 1 [.pn] [(0,1,16)]),e 18 (.app 1 8 15 17),s 19 (.nilc 12),st 1 19 18]) .skip))) []
end
end Go.RE
