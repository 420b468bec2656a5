/- Parts, merged. -/
import Derived.Test.YtloigebekdkijaaGreatQC0
namespace Go.Proofs.YtloigebekdkijaaGreat
noncomputable section
def m_gen_New (a0:List Int):Option ((List Int)×Int):=
  some ((a0,0).1,(a0,0).2)
def m_help_Mod (a0:Int) (a1:Int):Option Int:=
  need ((IntKind.u64.wrap (a1))≠0) (some (i64 (Int.tmod (IntKind.u64.wrap (a0)) (IntKind.u64.wrap (a1)))))
def zck (a0:(List Int)×Int) (a1:Int):Option (Int×((List Int)×Int)):=
  if(List.length a0.1:Int)≤a0.2 then(some (0,(a0.1,a0.2)))else(need ((0:Int)≤i64 ((i64 (a0.2+1)) - 1)/\(i64 ((i64 (a0.2+1)) - 1))<(List.length a0.1:Int)) (bnd1 (m_help_Mod (gi a0.1 (i64 ((i64 (a0.2+1)) - 1))) a1) (λ y2=>some (y2,(a0.1,i64 (a0.2+1))))))
def m_ref9_eight_B2 (a0:Int) (k3:(List UInt8)->Option (List UInt8)) (c:(List UInt8)->Int->Option (List UInt8)) (b:List UInt8) (a:Int):Option (List UInt8):=
  if a<8 then(need (¬(IntKind.u64.wrap (i64 (8*a)))<0) (need ((0:Int)≤i64 (7 - a)/\(i64 (7 - a))<(List.length b:Int)) (c (List.set b (Int.toNat (i64 (7 - a))) (u8i (Int.fdiv (IntKind.u64.wrap (a0)) (2^min (Int.toNat (IntKind.u64.wrap (i64 (8*a)))) IntKind.u64.bits)))) (i64 (a+1)))))else(k3 b)
def m_ref9_eight_L2 (a0:Int) (k3:(List UInt8)->Option (List UInt8)):Nat->(List UInt8)->Int->Option (List UInt8)
  |0,_,_=>none
  |n+1,a,b=>m_ref9_eight_B2 a0 k3 (m_ref9_eight_L2 a0 k3 n) a b
def m_ref9_eight (a0:Int):Option (List UInt8):=
  need ((0:Int)≤8/\(8:Int)≤137438953472) (jn (λ(a:List UInt8)=>some a) (λ k3=>m_ref9_eight_L2 a0 k3 FU (List.replicate (Int.toNat 8) (0:UInt8)) 0))
def zic (a0:Int):Option (List UInt8):=
  bnd1 (m_ref9_eight a0) (λ y1=>need (List.length [1]+List.length y1≤9223372036854775807) (some ([1]++y1)))
def zeu (b:(List UInt8)->(List UInt8)->Option Int) (a0:List (List UInt8)) (a1:Int) (k1:Unit->Option Bool) (c:Int->Option Bool) (a:Int):Option Bool:=
  if a<(List.length a0:Int)then(need ((0:Int)≤i64 (a - a1)/\(i64 (a - a1))<(List.length a0:Int)) (need ((0:Int)≤a/\a<(List.length a0:Int)) (bnd1 (b (gi a0 (i64 (a - a1))) (gi a0 a)) (λ y20=>if 0≤y20 then(some false)else(c (i64 (a+a1)))))))else(k1 ())
def zdr (a:(List UInt8)->(List UInt8)->Option Int) (a0:List (List UInt8)) (a1:Int) (k1:Unit->Option Bool):Nat->Int->Option Bool
  |0,_=>none
  |n+1,b=>zeu a a0 a1 k1 (zdr a a0 a1 k1 n) b
def zhs (b:(List UInt8)->Int->Bool->Option (Int×(List (List UInt8))×Int)) (a:(List UInt8)->(List UInt8)->Option Int) (a0:List (List UInt8)) (a1:Int):Option Bool:=
  jn (λ(_:Unit)=>some true) (λ k1=>zdr a a0 a1 k1 FU a1)
def m_ref9_number_B2 (a0:List UInt8) (k1:Int->Option Int) (c:Int->Int->Option Int) (b:Int) (a:Int):Option Int:=
  if a<8 then(need ((0:Int)≤a/\a<(List.length a0:Int)) (c (bOr .u64 (IntKind.u64.wrap (b*2^min (Int.toNat 8) IntKind.u64.bits)) (UInt8.toNat (gi a0 a):Int)) (i64 (a+1))))else(k1 b)
def zls (a0:List UInt8) (k1:Int->Option Int):Nat->Int->Int->Option Int
  |0,_,_=>none
  |n+1,a,b=>m_ref9_number_B2 a0 k1 (zls a0 k1 n) a b
def zkk (a0:List UInt8):Option Int:=
  jn (λ(a:Int)=>some (i64 (a))) (λ k1=>zls a0 k1 FU 0 0)
def m_ref9_small (a0:List UInt8) (a1:Int) (a2:Int):Option Bool:=
  jn (λ(a:Bool)=>some a) (λ k1=>need ((0:Int)≤0/\0<(List.length a0:Int)) (if(UInt8.toNat (gi a0 0):Int)=1 then(need (1≤(List.length a0:Int)) (bnd1 (zkk (List.drop (Int.toNat 1) a0)) (λ y9=>if a1≤y9 then(need (1≤(List.length a0:Int)) (bnd1 (zkk (List.drop (Int.toNat 1) a0)) (λ y11=>k1 (decide (y11≤a2)))))else(k1 false))))else(k1 false)))
def m_ref9_parted (a:(List UInt8)->Int->Bool->Option (Int×(List (List UInt8))×Int)) (b:(List UInt8)->(List UInt8)->Option Int) (a0:Int) (a1:List (List UInt8)):Option Bool:=
  if a0=3 then(jn (λ(c:Bool)=>some c) (λ k1=>if 2≤(List.length a1:Int)then(k1 (decide ((List.length a1:Int)≤8)))else(k1 false)))else(if a0=5 then(bnd1 (zhs a b a1 1) (λ y2=>some y2))else(if a0=6 then(jn (λ(d:Bool)=>some d) (λ k3=>if(Int.tmod (List.length a1:Int) 2)=0 then(bnd1 (zhs a b a1 2) (λ y5=>k3 y5))else(k3 false)))else(if a0=7 then(jn (λ(e:Bool)=>some e) (λ k6=>if 1≤(List.length a1:Int)then(if(List.length a1:Int)≤9 then(need ((0:Int)≤0/\0<(List.length a1:Int)) (need ((0:Int)≤0/\0<(List.length (gi a1 0):Int)) (k6 (decide ((UInt8.toNat (gi (gi a1 0) 0):Int)=10)))))else(k6 false))else(k6 false)))else(if a0=8 then(jn (λ(f:Bool)=>some f) (λ k11=>if 1≤(List.length a1:Int)then(if(List.length a1:Int)≤33 then(need ((0:Int)≤0/\0<(List.length a1:Int)) (bnd1 (m_ref9_small (gi a1 0) 0 65535) (λ y15=>k11 y15)))else(k11 false))else(k11 false)))else(if a0=9 then(jn (λ(g:Bool)=>some g) (λ k16=>if 1≤(List.length a1:Int)then(need ((0:Int)≤0/\0<(List.length a1:Int)) (bnd1 (m_ref9_small (gi a1 0) 1 21) (λ y20=>k16 y20)))else(k16 false)))else(some true))))))
def znb (e:(List UInt8)->Int->Bool->Option (Int×(List (List UInt8))×Int)) (a0:List UInt8) (a1:Int) (a2:Bool) (k13:Int->Int->(List (List UInt8))->Option (Int×(List (List UInt8))×Int)) (f:Int->Int->(List (List UInt8))->Int->Option (Int×(List (List UInt8))×Int)) (a:Int) (c:Int) (b:List (List UInt8)) (d:Int):Option (Int×(List (List UInt8))×Int):=
  if d<(bOr .i64 (i64 ((UInt8.toNat (gi a0 1):Int)*2^min (Int.toNat 8) IntKind.i64.bits)) (UInt8.toNat (gi a0 2):Int))then(need ((0:Int)≤a/\a≤(List.length a0:Int)) (bnd1 (e (List.drop (Int.toNat a) a0) (i64 (a1 - 1)) a2) (λ y41=>if y41.1=0 then(some (0,[],0))else(need ((0:Int)≤a/\a≤i64 (a+y41.1)/\(i64 (a+y41.1))≤(List.length a0:Int)) (need (List.length b+List.length [List.take (Int.toNat (i64 (a+y41.1)) - Int.toNat a) (List.drop (Int.toNat a) a0)]≤137438953472) (f (i64 (a+y41.1)) (max c y41.2.2) (b++[List.take (Int.toNat (i64 (a+y41.1)) - Int.toNat a) (List.drop (Int.toNat a) a0)]) (i64 (d+1))))))))else(k13 a c b)
def zgu (a:(List UInt8)->Int->Bool->Option (Int×(List (List UInt8))×Int)) (a0:List UInt8) (a1:Int) (a2:Bool) (k13:Int->Int->(List (List UInt8))->Option (Int×(List (List UInt8))×Int)):Nat->Int->Int->(List (List UInt8))->Int->Option (Int×(List (List UInt8))×Int)
  |0,_,_,_,_=>none
  |n+1,b,c,d,e=>znb a a0 a1 a2 k13 (zgu a a0 a1 a2 k13 n) b c d e
def zkm (b:(List UInt8)->Int->Bool->Option (Int×(List (List UInt8))×Int)) (c:(List UInt8)->(List UInt8)->Option Int) (a0:List UInt8) (a1:Int) (a2:Bool):Option (Int×(List (List UInt8))×Int):=
  jn (λ(d:Bool)=>if d then(some (0,[],0))else(need ((0:Int)≤0/\0<(List.length a0:Int)) (if(UInt8.toNat (gi a0 0):Int)=1 then(if(List.length a0:Int)<9 then(some (0,[],0))else(some (9,[],1)))else(if(UInt8.toNat (gi a0 0):Int)=2 then(need ((0:Int)≤1/\1<(List.length a0:Int)) (if 1<(gi a0 1)then(some (0,[],0))else(some (2,[],1))))else(jn (λ(e:Bool)=>if e then(some (0,[],0))else(if(UInt8.toNat (gi a0 0):Int)=10 then(some (3,[],1))else(need ((0:Int)≤1/\1<(List.length a0:Int)) (need ((0:Int)≤2/\2<(List.length a0:Int)) (jn (λ(f:Int) (g:Int) (a:List (List UInt8))=>jn (λ(h:List (List UInt8)) (i:Bool)=>if i then(some (0,[],0))else(some (f,h,i64 (g+1)))) (λ k51=>if a2 then(need ((0:Int)≤0/\0<(List.length a0:Int)) (bnd1 (m_ref9_parted b c (UInt8.toNat (gi a0 0):Int) a) (λ y55=>k51 a (!y55))))else(k51 a false))) (λ k13=>zgu b a0 a1 a2 k13 FU 3 0 [] 0)))))) (λ k10=>if(List.length a0:Int)<3 then(k10 true)else(if(UInt8.toNat (gi a0 0):Int)<3 then(k10 true)else(k10 (decide (10<(UInt8.toNat (gi a0 0):Int))))))))))) (λ k3=>if(List.length a0:Int)<2 then(k3 true)else(k3 (decide (a1=0))))
def zka (a0:Bool) (a1:Bool):Option Int:=
  if a0 then(some (-1))else(if a1 then(some 1)else(some 0))
def m_ref9_order_B2 (b:(List UInt8)->(List UInt8)->Option Int) (y36:Int×(List (List UInt8))×Int) (y37:Int×(List (List UInt8))×Int) (k38:Unit->Option Int) (c:Int->Option Int) (a:Int):Option Int:=
  jn (λ(d:Bool)=>if d then(need ((0:Int)≤a/\a<(List.length y36.2.1:Int)) (need ((0:Int)≤a/\a<(List.length y37.2.1:Int)) (bnd1 (b (gi y36.2.1 a) (gi y37.2.1 a)) (λ y75=>if¬y75=0 then(some y75)else(c (i64 (a+1)))))))else(k38 ())) (λ k72=>if a<(List.length y36.2.1:Int)then(k72 (decide (a<(List.length y37.2.1:Int))))else(k72 false))
def m_ref9_order_L2 (a:(List UInt8)->(List UInt8)->Option Int) (y36:Int×(List (List UInt8))×Int) (y37:Int×(List (List UInt8))×Int) (k38:Unit->Option Int):Nat->Int->Option Int
  |0,_=>none
  |n+1,b=>m_ref9_order_B2 a y36 y37 k38 (m_ref9_order_L2 a y36 y37 k38 n) b
def m_ref9_order_F (a:(List UInt8)->Int->Bool->Option (Int×(List (List UInt8))×Int)) (b:(List UInt8)->(List UInt8)->Option Int) (a0:List UInt8) (a1:List UInt8):Option Int:=
  if a0=a1 then(some 0)else(need ((0:Int)≤0/\0<(List.length a0:Int)) (need ((0:Int)≤0/\0<(List.length a1:Int)) (if¬(gi a0 0)=(gi a1 0)then(need ((0:Int)≤0/\0<(List.length a0:Int)) (need ((0:Int)≤0/\0<(List.length a1:Int)) (bnd1 (zka (decide ((gi a0 0)<(gi a1 0))) true) (λ y23=>some y23))))else(need ((0:Int)≤0/\0<(List.length a0:Int)) (if(UInt8.toNat (gi a0 0):Int)=1 then(need (1≤(List.length a0:Int)) (bnd1 (zkk (List.drop (Int.toNat 1) a0)) (λ y26=>need (1≤(List.length a1:Int)) (bnd1 (zkk (List.drop (Int.toNat 1) a1)) (λ y28=>bnd1 (zka (decide (y26<y28)) (decide (y28<y26))) (λ y29=>some y29))))))else(jn (λ(c:Bool)=>if c then(bnd1 (zka (decide (ltS a0 a1)) (decide (ltS a1 a0))) (λ y35=>some y35))else(bnd1 (a a0 32 false) (λ y36=>bnd1 (a a1 32 false) (λ y37=>jn (λ(_:Unit)=>bnd1 (zka (decide ((List.length y36.2.1:Int)<(List.length y37.2.1:Int))) (decide ((List.length y37.2.1:Int)<(List.length y36.2.1:Int)))) (λ y76=>some y76)) (λ k38=>m_ref9_order_L2 b y36 y37 k38 FU 0))))) (λ k30=>need ((0:Int)≤0/\0<(List.length a0:Int)) (if(UInt8.toNat (gi a0 0):Int)=2 then(k30 true)else(need ((0:Int)≤0/\0<(List.length a0:Int)) (k30 (decide ((UInt8.toNat (gi a0 0):Int)=10))))))))))))
def zbt:Nat->((List UInt8)->Int->Bool->Option (Int×(List (List UInt8))×Int))×((List UInt8)->(List UInt8)->Option Int)
  |0=>((λ _ _ _=>none),(λ _ _=>none))
  |n+1=>(zkm (zbt n).1 (zbt n).2,m_ref9_order_F (zbt n).1 (zbt n).2)
def m_ref9_walk (a0:List UInt8) (a1:Int) (a2:Bool):Option (Int×(List (List UInt8))×Int):=(zbt FU).1 a0 a1 a2
def m_ref9_order (a0:List UInt8) (a1:List UInt8):Option Int:=(zbt FU).2 a0 a1
def m_ref9_read (a0:List UInt8) (a1:Int):Option (Int×(List (List UInt8))×Int):=
  bnd1 (m_ref9_walk a0 a1 true) (λ y1=>some (y1.1,y1.2.1,y1.2.2))
def ziw (a0:List UInt8):Option Bool:=
  if 131072<(List.length a0:Int)then(some false)else(bnd1 (m_ref9_read a0 32) (λ y1=>jn (λ(a:Bool)=>some a) (λ k2=>if 0<y1.1 then(k2 (decide (y1.1=(List.length a0:Int))))else(k2 false))))
def m_ref9_all_B2 (a0:List (List UInt8)) (k1:Unit->Option Bool) (b:Int->Option Bool) (a:Int):Option Bool:=
  if a<(List.length a0:Int)then(need ((0:Int)≤a/\a<(List.length a0:Int)) (bnd1 (ziw (gi a0 a)) (λ y14=>if !y14 then(some false)else(b (i64 (a+1))))))else(k1 ())
def zmf (a0:List (List UInt8)) (k1:Unit->Option Bool):Nat->Int->Option Bool
  |0,_=>none
  |n+1,a=>m_ref9_all_B2 a0 k1 (zmf a0 k1 n) a
def m_ref9_all (a0:List (List UInt8)):Option Bool:=
  jn (λ(_:Unit)=>some true) (λ k1=>zmf a0 k1 FU 0)
def m_ref9_two (a0:Int):Option (List UInt8):=
  some [u8i (Int.fdiv a0 (2^min (Int.toNat 8) IntKind.i64.bits)),u8i a0]
def m_ref9_checked (a0:List UInt8):Option (List UInt8):=
  bnd1 (ziw a0) (λ y1=>if y1 then(some a0)else(some ([]:List UInt8)))
def zmk (a1:List (List UInt8)) (k3:(List UInt8)->Option (List UInt8)) (c:(List UInt8)->Int->Option (List UInt8)) (b:List UInt8) (a:Int):Option (List UInt8):=
  if a<(List.length a1:Int)then(jn (λ(d:Bool)=>if d then(some ([]:List UInt8))else(need ((0:Int)≤a/\a<(List.length a1:Int)) (need (List.length b+List.length (gi a1 a)≤9223372036854775807) (c (b++(gi a1 a)) (i64 (a+1)))))) (λ k114=>need ((0:Int)≤a/\a<(List.length a1:Int)) (if(gi a1 a)=([]:List UInt8)then(k114 true)else(k114 (decide (131072<(List.length b:Int)))))))else(k3 b)
def zhf (a1:List (List UInt8)) (k3:(List UInt8)->Option (List UInt8)):Nat->(List UInt8)->Int->Option (List UInt8)
  |0,_,_=>none
  |n+1,a,b=>zmk a1 k3 (zhf a1 k3 n) a b
def znl (a0:Int) (a1:List (List UInt8)):Option (List UInt8):=
  if 65535<(List.length a1:Int)then(some ([]:List UInt8))else(bnd1 (m_ref9_two (List.length a1:Int)) (λ y1=>need (List.length [u8i a0]+List.length y1≤9223372036854775807) (jn (λ(a:List UInt8)=>bnd1 (m_ref9_read a 32) (λ y122=>jn (λ(b:Bool)=>if b then(some ([]:List UInt8))else(bnd1 (m_ref9_checked a) (λ y124=>some y124))) (λ k123=>if¬y122.1=(List.length a:Int)then(k123 true)else(k123 (decide (¬(List.length y122.2.1:Int)=(List.length a1:Int))))))) (λ k3=>zhf a1 k3 FU ([u8i a0]++y1) 0))))
def m_ref9_Make (a0:Int) (a1:List (List UInt8)):Option (List UInt8):=
  bnd1 (m_ref9_all a1) (λ y1=>if !y1 then(some ([]:List UInt8))else(bnd1 (znl a0 a1) (λ y2=>some y2)))
def m_ref9_Numbered (a0:Int) (a1:Int) (a2:List (List UInt8)):Option (List UInt8):=
  bnd1 (zic a1) (λ y1=>need (List.length [y1]+List.length a2≤137438953472) (bnd1 (m_ref9_Make a0 ([y1]++a2)) (λ y5=>some y5)))
def zgq (a0:List UInt8):Option (List (List UInt8)):=
  bnd1 (ziw a0) (λ y1=>if !y1 then(some [])else(bnd1 (m_ref9_walk a0 32 false) (λ y2=>some y2.2.1)))
def zlg (a0:List UInt8):Option Int:=
  bnd1 (ziw a0) (λ y1=>if !y1 then(some 0)else(need ((0:Int)≤0/\0<(List.length a0:Int)) (some (UInt8.toNat (gi a0 0):Int))))
def zfq (a0:List UInt8):Option Int:=
  bnd1 (zlg a0) (λ y1=>if y1=1 then(need (1≤(List.length a0:Int)) (bnd1 (zkk (List.drop (Int.toNat 1) a0)) (λ y3=>some y3)))else(if y1=2 then(need ((0:Int)≤1/\1<(List.length a0:Int)) (some (UInt8.toNat (gi a0 1):Int)))else(if y1=10 then(need ((0:Int)≤1/\1<(List.length a0:Int)) (need ((0:Int)≤2/\2<(List.length a0:Int)) (some (bOr .i64 (i64 ((UInt8.toNat (gi a0 1):Int)*2^min (Int.toNat 8) IntKind.i64.bits)) (UInt8.toNat (gi a0 2):Int)))))else(some 0))))
def zjh (a0:List UInt8) (a1:Int) (a2:Int):Option Bool:=
  jn (λ(a:Bool)=>some a) (λ k1=>bnd1 (zlg a0) (λ y5=>if y5=1 then(bnd1 (zfq a0) (λ y6=>if a1≤y6 then(bnd1 (zfq a0) (λ y7=>k1 (decide (y7≤a2))))else(k1 false)))else(k1 false)))
def zmy (a0:List UInt8) (a1:List UInt8):Option Int:=
  bnd1 (ziw a0) (λ y1=>bnd1 (ziw a1) (λ y2=>jn (λ(a:Bool)=>if a then(bnd1 (m_ref9_order a0 a1) (λ y8=>some y8))else(if¬y1=y2 then(bnd1 (zka y2 y1) (λ y9=>some y9))else(bnd1 (zka (decide (ltS a0 a1)) (decide (ltS a1 a0))) (λ y10=>some y10)))) (λ k7=>if y1 then(k7 y2)else(k7 false))))
def zmb (b:(List UInt8)->Option Bool) (a0:List (List UInt8)) (k4:Unit->Option Bool) (c:Int->Option Bool) (a:Int):Option Bool:=
  if a<(List.length a0:Int)then(jn (λ(d:Bool)=>if d then(some false)else(jn (λ(e:Bool)=>if e then(some false)else(c (i64 (a+2)))) (λ k449=>if 0<a then(need ((0:Int)≤i64 (a - 2)/\(i64 (a - 2))<(List.length a0:Int)) (bnd1 (zfq (gi a0 (i64 (a - 2)))) (λ y460=>need ((0:Int)≤a/\a<(List.length a0:Int)) (bnd1 (zfq (gi a0 a)) (λ y462=>if y462<y460 then(k449 true)else(need ((0:Int)≤i64 (a - 2)/\(i64 (a - 2))<(List.length a0:Int)) (need ((0:Int)≤a/\a<(List.length a0:Int)) (if(gi a0 (i64 (a - 2)))=(gi a0 a)then(need ((0:Int)≤i64 (a - 1)/\(i64 (a - 1))<(List.length a0:Int)) (need ((0:Int)≤i64 (a+1)/\(i64 (a+1))<(List.length a0:Int)) (bnd1 (zmy (gi a0 (i64 (a - 1))) (gi a0 (i64 (a+1)))) (λ y467=>k449 (decide (0≤y467))))))else(k449 false)))))))))else(k449 false)))) (λ k440=>need ((0:Int)≤a/\a<(List.length a0:Int)) (bnd1 (zjh (gi a0 a) 2 1025) (λ y446=>if !y446 then(k440 true)else(need ((0:Int)≤i64 (a+1)/\(i64 (a+1))<(List.length a0:Int)) (bnd1 (b (gi a0 (i64 (a+1)))) (λ y448=>k440 (!y448))))))))else(k4 ())
def zjq (a:(List UInt8)->Option Bool) (a0:List (List UInt8)) (k4:Unit->Option Bool):Nat->Int->Option Bool
  |0,_=>none
  |n+1,b=>zmb a a0 k4 (zjq a a0 k4 n) b
def m_ref16_offered (a:(List UInt8)->Option Bool) (a0:List (List UInt8)):Option Bool:=
  jn (λ(b:Bool)=>if b then(some false)else(jn (λ(_:Unit)=>some true) (λ k4=>zjq a a0 k4 FU 0))) (λ k3=>if(List.length a0:Int)=0 then(k3 true)else(k3 (decide ((Int.tmod (List.length a0:Int) 2)=1))))
def zgw (a0:Int):Option (List UInt8):=
  jn (λ(a:Bool)=>if a then(some [80,80])else(jn (λ(b:Bool)=>if b then(some [80,83,80])else(if a0=17 then(some [80,83,83,80])else(if a0=20 then(some [80,82,80])else(if a0=14 then(some [80,83])else(jn (λ(c:Bool)=>if c then(some [80,82])else(if a0=19 then(some [80])else(some ([]:List UInt8)))) (λ k7=>if a0=15 then(k7 (decide (a0=15)))else(k7 (decide (a0=18))))))))) (λ k6=>if a0=12 then(k6 (decide (a0=12)))else(if a0=13 then(k6 (decide (a0=13)))else(k6 (decide (a0=16))))))) (λ k5=>if a0=7 then(k5 (decide (a0=7)))else(if a0=8 then(k5 (decide (a0=8)))else(if a0=9 then(k5 (decide (a0=9)))else(if a0=10 then(k5 (decide (a0=10)))else(k5 (decide (a0=11)))))))
def zmp (a0:List (List UInt8)) (k1:(List Int)->Option ((List Int)×Bool)) (d:(List Int)->Int->Option ((List Int)×Bool)) (b:List Int) (a:Int):Option ((List Int)×Bool):=
  if a<(List.length a0:Int)then(need ((0:Int)≤a/\a<(List.length a0:Int)) (bnd1 (zlg (gi a0 a)) (λ y109=>if¬y109=1 then(some ([],false))else(need ((0:Int)≤a/\a<(List.length a0:Int)) (bnd1 (zfq (gi a0 a)) (λ y111=>jn (λ(c:Int)=>need (List.length b+List.length [c]≤137438953472) (d (b++[c]) (i64 (a+1)))) (λ k112=>jn (λ(e:Bool)=>if e then(k112 (-1))else(k112 y111)) (λ k114=>if y111<(-1)then(k114 true)else(k114 (decide (1073741824<y111)))))))))))else(k1 b)
def zgz (a0:List (List UInt8)) (k1:(List Int)->Option ((List Int)×Bool)):Nat->(List Int)->Int->Option ((List Int)×Bool)
  |0,_,_=>none
  |n+1,a,b=>zmp a0 k1 (zgz a0 k1 n) a b
def znt (a0:List (List UInt8)):Option ((List Int)×Bool):=
  jn (λ(a:List Int)=>some (a,true)) (λ k1=>zgz a0 k1 FU [] 0)
def zds (a0:Int):Option Bool:=
  jn (λ(a:Bool)=>some a) (λ k1=>if 2≤a0 then(k1 (decide (a0<1026)))else(k1 false))
def zkx (a0:List Int) (k1:Unit->Option Bool) (b:Int->Option Bool) (a:Int):Option Bool:=
  if a<(List.length a0:Int)then(jn (λ(c:Bool)=>if c then(some false)else(b (i64 (a+1)))) (λ k108=>need ((0:Int)≤a/\a<(List.length a0:Int)) (bnd1 (zds (gi a0 a)) (λ y114=>if !y114 then(k108 true)else(if 0<a then(need ((0:Int)≤a/\a<(List.length a0:Int)) (need ((0:Int)≤i64 (a - 1)/\(i64 (a - 1))<(List.length a0:Int)) (k108 (decide ((gi a0 a)≤(gi a0 (i64 (a - 1))))))))else(k108 false))))))else(k1 ())
def zif (a0:List Int) (k1:Unit->Option Bool):Nat->Int->Option Bool
  |0,_=>none
  |n+1,a=>zkx a0 k1 (zif a0 k1 n) a
def m_ref16_ValidSet (a0:List Int):Option Bool:=
  jn (λ(_:Unit)=>some true) (λ k1=>zif a0 k1 FU 0)
def m_ref16_events (a0:List UInt8):Option ((List Int)×Bool):=
  bnd1 (zgq a0) (λ y1=>bnd1 (znt y1) (λ y2=>jn (λ(a:Bool)=>some (y2.1,a)) (λ k3=>if y2.2 then(bnd1 (zlg a0) (λ y6=>if y6=5 then(bnd1 (m_ref16_ValidSet y2.1) (λ y7=>k3 y7))else(k3 false)))else(k3 false))))
def zmx (a0:Int×Int) (a1:Int×Int):Option Bool:=
  jn (λ(a:Bool)=>some a) (λ k1=>if a0.1<a1.1 then(k1 true)else(if a0.1=a1.1 then(k1 (decide (a0.2<a1.2)))else(k1 false)))
def zgo (a0:List (Int×Int)) (k1:Unit->Option Bool) (b:Int->Option Bool) (a:Int):Option Bool:=
  if a<(List.length a0:Int)then(jn (λ(c:Bool)=>if c then(some false)else(b (i64 (a+1)))) (λ k174=>need ((0:Int)≤a/\a<(List.length a0:Int)) (bnd1 (zds ((gi a0 a).1)) (λ y183=>if !y183 then(k174 true)else(need ((0:Int)≤a/\a<(List.length a0:Int)) (bnd1 (zds ((gi a0 a).2)) (λ y185=>if !y185 then(k174 true)else(if 0<a then(need ((0:Int)≤i64 (a - 1)/\(i64 (a - 1))<(List.length a0:Int)) (need ((0:Int)≤a/\a<(List.length a0:Int)) (bnd1 (zmx (gi a0 (i64 (a - 1))) (gi a0 a)) (λ y188=>k174 (!y188)))))else(k174 false)))))))))else(k1 ())
def zfb (a0:List (Int×Int)) (k1:Unit->Option Bool):Nat->Int->Option Bool
  |0,_=>none
  |n+1,a=>zgo a0 k1 (zfb a0 k1 n) a
def zgp (a0:List (Int×Int)):Option Bool:=
  jn (λ(_:Unit)=>some true) (λ k1=>zfb a0 k1 FU 0)
def m_ref16_pairs_B2 (y2:(List (List UInt8))) (k3:(List (Int×Int))->Option ((List (Int×Int))×Bool)) (c:(List (Int×Int))->Int->Option ((List (Int×Int))×Bool)) (b:List (Int×Int)) (a:Int):Option ((List (Int×Int))×Bool):=
  if a<(List.length y2:Int)then(need ((0:Int)≤a/\a<(List.length y2:Int)) (bnd1 (zgq (gi y2 a)) (λ y210=>bnd1 (znt y210) (λ y211=>jn (λ(d:Bool)=>if d then(some ([],false))else(need ((0:Int)≤0/\0<(List.length y211.1:Int)) (need ((0:Int)≤1/\1<(List.length y211.1:Int)) (need (List.length b+List.length [(gi y211.1 0,gi y211.1 1)]≤137438953472) (c (b++[(gi y211.1 0,gi y211.1 1)]) (i64 (a+1))))))) (λ k218=>need ((0:Int)≤a/\a<(List.length y2:Int)) (bnd1 (zlg (gi y2 a)) (λ y222=>if¬y222=3 then(k218 true)else(if !y211.2 then(k218 true)else(k218 (decide (¬(List.length y211.1:Int)=2)))))))))))else(k3 b)
def zlw (y2:(List (List UInt8))) (k3:(List (Int×Int))->Option ((List (Int×Int))×Bool)):Nat->(List (Int×Int))->Int->Option ((List (Int×Int))×Bool)
  |0,_,_=>none
  |n+1,a,b=>m_ref16_pairs_B2 y2 k3 (zlw y2 k3 n) a b
def m_ref16_pairs (a0:List UInt8):Option ((List (Int×Int))×Bool):=
  bnd1 (zlg a0) (λ y1=>if¬y1=5 then(some ([],false))else(bnd1 (zgq a0) (λ y2=>jn (λ(a:List (Int×Int))=>bnd1 (zgp a) (λ y227=>some (a,y227))) (λ k3=>zlw y2 k3 FU [] 0))))
def m_ref16_Above_B2 (a0:List (Int×Int)) (k1:(List (Int×Int))->Option (List (Int×Int))) (c:(List (Int×Int))->Int->Option (List (Int×Int))) (b:List (Int×Int)) (a:Int):Option (List (Int×Int)):=
  if a<(List.length a0:Int)then(need ((0:Int)≤a/\a<(List.length a0:Int)) (need ((0:Int)≤a/\a<(List.length a0:Int)) (need (List.length b+List.length [((gi a0 a).1,(gi a0 a).2)]≤137438953472) (c (b++[((gi a0 a).1,(gi a0 a).2)]) (i64 (a+1))))))else(k1 b)
def zlr (a0:List (Int×Int)) (k1:(List (Int×Int))->Option (List (Int×Int))):Nat->(List (Int×Int))->Int->Option (List (Int×Int))
  |0,_,_=>none
  |n+1,a,b=>m_ref16_Above_B2 a0 k1 (zlr a0 k1 n) a b
def m_ref16_Above (a0:List (Int×Int)):Option (List (Int×Int)):=
  jn (λ(a:List (Int×Int))=>some a) (λ k1=>zlr a0 k1 FU [] 0)
def zmd (a0:List (Int×Int)) (a1:Int) (a2:Int) (k1:Unit->Option Bool) (b:Int->Option Bool) (a:Int):Option Bool:=
  if a<(List.length a0:Int)then(jn (λ(c:Bool)=>if c then(some true)else(b (i64 (a+1)))) (λ k64=>need ((0:Int)≤a/\a<(List.length a0:Int)) (if((gi a0 a).1)=a1 then(need ((0:Int)≤a/\a<(List.length a0:Int)) (k64 (decide (((gi a0 a).2)=a2))))else(k64 false))))else(k1 ())
def zjr (a0:List (Int×Int)) (a1:Int) (a2:Int) (k1:Unit->Option Bool):Nat->Int->Option Bool
  |0,_=>none
  |n+1,a=>zmd a0 a1 a2 k1 (zjr a0 a1 a2 k1 n) a
def m_ref16_greater (a0:List (Int×Int)) (a1:Int) (a2:Int):Option Bool:=
  jn (λ(_:Unit)=>some false) (λ k1=>zjr a0 a1 a2 k1 FU 0)
def zir (a0:List (Int×Int)) (k1:Unit->Option Bool) (b:Int->Option Bool) (a:Int):Option Bool:=
  if a<(List.length a0:Int)then(need ((0:Int)≤a/\a<(List.length a0:Int)) (jn (λ(c:Bool)=>if c then(some false)else(b (i64 (a+1)))) (λ k154=>bnd1 (zds ((gi a0 a).1)) (λ y160=>if !y160 then(k154 true)else(bnd1 (zds ((gi a0 a).2)) (λ y161=>if !y161 then(k154 true)else(if((gi a0 a).1)=((gi a0 a).2)then(k154 true)else(if 0<a then(need ((0:Int)≤i64 (a - 1)/\(i64 (a - 1))<(List.length a0:Int)) (need ((0:Int)≤i64 (a - 1)/\(i64 (a - 1))<(List.length a0:Int)) (bnd1 (zmx ((gi a0 (i64 (a - 1))).1,(gi a0 (i64 (a - 1))).2) ((gi a0 a).1,(gi a0 a).2)) (λ y164=>k154 (!y164)))))else(k154 false)))))))))else(k1 ())
def zgn (a0:List (Int×Int)) (k1:Unit->Option Bool):Nat->Int->Option Bool
  |0,_=>none
  |n+1,a=>zir a0 k1 (zgn a0 k1 n) a
def zia (a0:List (Int×Int)) (b:Int) (k872:Unit->Option Bool) (c:Int->Option Bool) (a:Int):Option Bool:=
  if a<(List.length a0:Int)then(jn (λ(d:Bool)=>if d then(some false)else(c (i64 (a+1)))) (λ k1001=>need ((0:Int)≤b/\b<(List.length a0:Int)) (need ((0:Int)≤a/\a<(List.length a0:Int)) (if((gi a0 b).2)=((gi a0 a).1)then(need ((0:Int)≤b/\b<(List.length a0:Int)) (need ((0:Int)≤a/\a<(List.length a0:Int)) (bnd1 (m_ref16_greater a0 ((gi a0 b).1) ((gi a0 a).2)) (λ y1011=>k1001 (!y1011)))))else(k1001 false)))))else(k872 ())
def zex (a0:List (Int×Int)) (a:Int) (k872:Unit->Option Bool):Nat->Int->Option Bool
  |0,_=>none
  |n+1,b=>zia a0 a k872 (zex a0 a k872 n) b
def zhu (a0:List (Int×Int)) (k165:Unit->Option Bool) (b:Int->Option Bool) (a:Int):Option Bool:=
  if a<(List.length a0:Int)then(jn (λ(_:Unit)=>b (i64 (a+1))) (λ k872=>zex a0 a k872 FU 0))else(k165 ())
def zek (a0:List (Int×Int)) (k165:Unit->Option Bool):Nat->Int->Option Bool
  |0,_=>none
  |n+1,a=>zhu a0 k165 (zek a0 k165 n) a
def zmu (a0:List (Int×Int)):Option Bool:=
  jn (λ(_:Unit)=>jn (λ(_:Unit)=>some true) (λ k165=>zek a0 k165 FU 0)) (λ k1=>zgn a0 k1 FU 0)
def m_ref16_term_B2 (b:(List UInt8)->Option Bool) (y1:(List (List UInt8))) (y4:Int) (y31:(List UInt8)) (k32:Unit->Option Bool) (c:Int->Option Bool) (a:Int):Option Bool:=
  if a<(List.length (List.drop (Int.toNat 1) y1):Int)then(jn (λ(d:Bool)=>if !d then(some false)else(c (i64 (a+1)))) (λ k249=>need ((0:Int)≤a/\a<(List.length y31:Int)) (if(gi y31 a)=80 then(need ((0:Int)≤a/\a<(List.length (List.drop (Int.toNat 1) y1):Int)) (bnd1 (b (gi (List.drop (Int.toNat 1) y1) a)) (λ y261=>k249 y261)))else(if(gi y31 a)=83 then(need ((0:Int)≤a/\a<(List.length (List.drop (Int.toNat 1) y1):Int)) (bnd1 (m_ref16_events (gi (List.drop (Int.toNat 1) y1) a)) (λ y263=>k249 y263.2)))else(need ((0:Int)≤a/\a<(List.length (List.drop (Int.toNat 1) y1):Int)) (bnd1 (m_ref16_pairs (gi (List.drop (Int.toNat 1) y1) a)) (λ y265=>if y265.2 then(if¬y4=18 then(k249 true)else(bnd1 (m_ref16_Above y265.1) (λ y266=>bnd1 (zmu y266) (λ y267=>k249 y267))))else(k249 false))))))))else(k32 ())
def zlk (a:(List UInt8)->Option Bool) (y1:(List (List UInt8))) (y4:Int) (y31:(List UInt8)) (k32:Unit->Option Bool):Nat->Int->Option Bool
  |0,_=>none
  |n+1,b=>m_ref16_term_B2 a y1 y4 y31 k32 (zlk a y1 y4 y31 k32 n) b
def znc (a:(List UInt8)->Option Bool) (a0:List UInt8):Option Bool:=
  bnd1 (zgq a0) (λ y1=>bnd1 (zlg a0) (λ y2=>if¬y2=9 then(some false)else(need ((0:Int)≤0/\0<(List.length y1:Int)) (bnd1 (zfq (gi y1 0)) (λ y4=>need (1≤(List.length y1:Int)) (jn (λ(b:Bool)=>if b then(some (decide ((List.length (List.drop (Int.toNat 1) y1):Int)=0)))else(if y4=5 then(jn (λ(c:Bool)=>some c) (λ k20=>if 1≤(List.length (List.drop (Int.toNat 1) y1):Int)then(if(List.length (List.drop (Int.toNat 1) y1):Int)≤33 then(need ((0:Int)≤0/\0<(List.length (List.drop (Int.toNat 1) y1):Int)) (bnd1 (zjh (gi (List.drop (Int.toNat 1) y1) 0) 0 65535) (λ y24=>k20 y24)))else(k20 false))else(k20 false)))else(if y4=21 then(jn (λ(d:Bool)=>some d) (λ k25=>if(List.length (List.drop (Int.toNat 1) y1):Int)=1 then(need ((0:Int)≤0/\0<(List.length (List.drop (Int.toNat 1) y1):Int)) (bnd1 (zjh (gi (List.drop (Int.toNat 1) y1) 0) 0 11) (λ y29=>k25 y29)))else(k25 false)))else(if y4=6 then(bnd1 (m_ref16_offered a (List.drop (Int.toNat 1) y1)) (λ y30=>some y30))else(bnd1 (zgw y4) (λ y31=>if¬(List.length (List.drop (Int.toNat 1) y1):Int)=(List.length y31:Int)then(some false)else(jn (λ(_:Unit)=>some true) (λ k32=>zlk a y1 y4 y31 k32 FU 0)))))))) (λ k19=>if y4=1 then(k19 (decide (y4=1)))else(if y4=2 then(k19 (decide (y4=2)))else(if y4=3 then(k19 (decide (y4=3)))else(k19 (decide (y4=4))))))))))))
def zkp:Nat->((List UInt8)->Option Bool)
  |0=>(λ _=>none)
  |n+1=>znc (zkp n)
def m_ref16_term (a0:List UInt8):Option Bool:=zkp FU a0
def zmo (a0:List UInt8):Option Bool:=
  jn (λ(a:Bool)=>some a) (λ k1=>bnd1 (ziw a0) (λ y4=>if y4 then(bnd1 (m_ref16_term a0) (λ y5=>k1 y5))else(k1 false)))
def zbs (a0:Int) (a1:List (List UInt8)):Option (List UInt8):=
  bnd1 (m_ref9_Numbered 9 a0 a1) (λ y1=>bnd1 (zmo y1) (λ y2=>if y2 then(some y1)else(some ([]:List UInt8))))
def m_ref16_Call (a0:Int) (a1:List (List UInt8)):Option (List UInt8):=
  jn (λ(a:Bool)=>if a then(some ([]:List UInt8))else(bnd1 (zic a0) (λ y4=>need (List.length [y4]+List.length a1≤137438953472) (bnd1 (zbs 5 ([y4]++a1)) (λ y8=>some y8))))) (λ k3=>if a0<0 then(k3 true)else(k3 (decide (65535<a0))))
def zdt (a0:(List Int)×Int):Option (Int×((List Int)×Int)):=
  bnd1 (zck (a0.1,a0.2) 4) (λ y1=>some (i64 (2+y1.1),(y1.2.1,y1.2.2)))
def zme (a0:List (Int×(List UInt8))) (c:List (Int×(List UInt8))) (b:Int) (k1855:Int->Option (List UInt8)) (d:Int->Option (List UInt8)) (a:Int):Option (List UInt8):=
  jn (λ(e:Bool)=>if e then(d (i64 (a+1)))else(k1855 a)) (λ k2028=>if a<(List.length c:Int)then(need ((0:Int)≤b/\b<(List.length a0:Int)) (need ((0:Int)≤a/\a<(List.length c:Int)) (if((gi c a).1)<((gi a0 b).1)then(k2028 true)else(need ((0:Int)≤b/\b<(List.length a0:Int)) (need ((0:Int)≤a/\a<(List.length c:Int)) (if((gi c a).1)=((gi a0 b).1)then(need ((0:Int)≤b/\b<(List.length a0:Int)) (need ((0:Int)≤a/\a<(List.length c:Int)) (bnd1 (zmy ((gi c a).2) ((gi a0 b).2)) (λ y2042=>k2028 (decide (y2042<0))))))else(k2028 false)))))))else(k2028 false))
def zhh (a0:List (Int×(List UInt8))) (a:List (Int×(List UInt8))) (b:Int) (k1855:Int->Option (List UInt8)):Nat->Int->Option (List UInt8)
  |0,_=>none
  |n+1,c=>zme a0 a b k1855 (zhh a0 a b k1855 n) c
def zmt (a0:List (Int×(List UInt8))) (k1:(List (Int×(List UInt8)))->Option (List UInt8)) (d:(List (Int×(List UInt8)))->Int->Option (List UInt8)) (a:List (Int×(List UInt8))) (c:Int):Option (List UInt8):=
  if c<(List.length a0:Int)then(jn (λ(e:List (Int×(List UInt8)))=>d e (i64 (c+1))) (λ k1610=>jn (λ(f:Bool)=>if f then(some ([]:List UInt8))else(jn (λ(b:Int)=>jn (λ(g:Bool)=>if g then(k1610 a)else(need (List.length a+List.length ([(0,[])]:List (Int×(List UInt8)))≤137438953472) (need ((0:Int)≤i64 (b+1)/\(i64 (b+1))≤(List.length (a++([(0,[])]:List (Int×(List UInt8)))):Int)/\(List.length (a++([(0,[])]:List (Int×(List UInt8)))):Int)≤(List.length (a++([(0,[])]:List (Int×(List UInt8)))):Int)) (need ((0:Int)≤b/\b≤(List.length (a++([(0,[])]:List (Int×(List UInt8)))):Int)/\(List.length (a++([(0,[])]:List (Int×(List UInt8)))):Int)≤(List.length (a++([(0,[])]:List (Int×(List UInt8)))):Int)) (need ((0:Int)≤c/\c<(List.length a0:Int)) (need ((0:Int)≤b/\b<(List.length (List.take (Int.toNat (i64 (b+1))) (a++([(0,[])]:List (Int×(List UInt8))))++List.take (Nat.min (Int.toNat (List.length (a++([(0,[])]:List (Int×(List UInt8)))):Int) - Int.toNat b) (Int.toNat (List.length (a++([(0,[])]:List (Int×(List UInt8)))):Int) - Int.toNat (i64 (b+1)))) (List.drop (Int.toNat b) (a++([(0,[])]:List (Int×(List UInt8)))))++List.drop (Int.toNat (i64 (b+1))+(Nat.min (Int.toNat (List.length (a++([(0,[])]:List (Int×(List UInt8)))):Int) - Int.toNat b) (Int.toNat (List.length (a++([(0,[])]:List (Int×(List UInt8)))):Int) - Int.toNat (i64 (b+1))))) (a++([(0,[])]:List (Int×(List UInt8))))):Int)) (k1610 (List.set (List.take (Int.toNat (i64 (b+1))) (a++([(0,[])]:List (Int×(List UInt8))))++List.take (Nat.min (Int.toNat (List.length (a++([(0,[])]:List (Int×(List UInt8)))):Int) - Int.toNat b) (Int.toNat (List.length (a++([(0,[])]:List (Int×(List UInt8)))):Int) - Int.toNat (i64 (b+1)))) (List.drop (Int.toNat b) (a++([(0,[])]:List (Int×(List UInt8)))))++List.drop (Int.toNat (i64 (b+1))+(Nat.min (Int.toNat (List.length (a++([(0,[])]:List (Int×(List UInt8)))):Int) - Int.toNat b) (Int.toNat (List.length (a++([(0,[])]:List (Int×(List UInt8)))):Int) - Int.toNat (i64 (b+1))))) (a++([(0,[])]:List (Int×(List UInt8))))) (Int.toNat b) (gi a0 c))))))))) (λ k2049=>if b<(List.length a:Int)then(need ((0:Int)≤c/\c<(List.length a0:Int)) (need ((0:Int)≤b/\b<(List.length a:Int)) (k2049 (decide ((gi a b)=(gi a0 c))))))else(k2049 false))) (λ k1855=>zhh a0 a c k1855 FU 0))) (λ k1846=>need ((0:Int)≤c/\c<(List.length a0:Int)) (bnd1 (zds ((gi a0 c).1)) (λ y1852=>if !y1852 then(k1846 true)else(need ((0:Int)≤c/\c<(List.length a0:Int)) (bnd1 (zmo ((gi a0 c).2)) (λ y1854=>k1846 (!y1854)))))))))else(k1 a)
def zcn (a0:List (Int×(List UInt8))) (k1:(List (Int×(List UInt8)))->Option (List UInt8)):Nat->(List (Int×(List UInt8)))->Int->Option (List UInt8)
  |0,_,_=>none
  |n+1,a,b=>zmt a0 k1 (zcn a0 k1 n) a b
def zmc (b:List (Int×(List UInt8))) (k2061:(List (List UInt8))->Option (List UInt8)) (d:(List (List UInt8))->Int->Option (List UInt8)) (c:List (List UInt8)) (a:Int):Option (List UInt8):=
  if a<(List.length b:Int)then(need ((0:Int)≤a/\a<(List.length b:Int)) (bnd1 (zic ((gi b a).1)) (λ y2089=>need ((0:Int)≤a/\a<(List.length b:Int)) (need (List.length c+List.length [y2089,(gi b a).2]≤137438953472) (d (c++[y2089,(gi b a).2]) (i64 (a+1)))))))else(k2061 c)
def zhd (a:List (Int×(List UInt8))) (k2061:(List (List UInt8))->Option (List UInt8)):Nat->(List (List UInt8))->Int->Option (List UInt8)
  |0,_,_=>none
  |n+1,b,c=>zmc a k2061 (zhd a k2061 n) b c
def zge (a0:List (Int×(List UInt8))):Option (List UInt8):=
  jn (λ(a:List (Int×(List UInt8)))=>if(List.length a:Int)=0 then(bnd1 (zbs 1 ([]:List (List UInt8))) (λ y2060=>some y2060))else(jn (λ(b:List (List UInt8))=>bnd1 (zbs 6 b) (λ y2093=>some y2093)) (λ k2061=>zhd a k2061 FU [] 0))) (λ k1=>zcn a0 k1 FU [] 0)
def zmw (a0:Int) (a1:List UInt8) (a2:List UInt8):Option (List UInt8):=
  bnd1 (zgw a0) (λ y1=>if¬y1=[80,80]then(some ([]:List UInt8))else(bnd1 (zbs a0 [a1,a2]) (λ y2=>some y2)))
def m_ref16_Set_B2 (a0:List Int) (k2:(List Bool)->Option (List Int)) (c:(List Bool)->Int->Option (List Int)) (b:List Bool) (a:Int):Option (List Int):=
  if a<(List.length a0:Int)then(jn (λ(d:List Bool)=>c d (i64 (a+1))) (λ k49=>need ((0:Int)≤a/\a<(List.length a0:Int)) (bnd1 (zds (gi a0 a)) (λ y55=>if y55 then(need ((0:Int)≤a/\a<(List.length a0:Int)) (need ((0:Int)≤i64 ((gi a0 a) - 2)/\(i64 ((gi a0 a) - 2))<1024/\(i64 ((gi a0 a) - 2))<(List.length b:Int)) (k49 (List.set b (Int.toNat (i64 ((gi a0 a) - 2))) true))))else(k49 b)))))else(k2 b)
def m_ref16_Set_L2 (a0:List Int) (k2:(List Bool)->Option (List Int)):Nat->(List Bool)->Int->Option (List Int)
  |0,_,_=>none
  |n+1,a,b=>m_ref16_Set_B2 a0 k2 (m_ref16_Set_L2 a0 k2 n) a b
def m_ref16_Set_B4 (c:List Bool) (k58:(List Int)->Option (List Int)) (d:(List Int)->Int->Option (List Int)) (b:List Int) (a:Int):Option (List Int):=
  if a<1024 then(jn (λ(e:List Int)=>d e (i64 (a+1))) (λ k95=>need ((0:Int)≤a/\a<1024/\a<(List.length c:Int)) (if gi c a then(need (List.length b+List.length [i64 (2+a)]≤137438953472) (k95 (b++[i64 (2+a)])))else(k95 b))))else(k58 b)
def zkq (a:List Bool) (k58:(List Int)->Option (List Int)):Nat->(List Int)->Int->Option (List Int)
  |0,_,_=>none
  |n+1,b,c=>m_ref16_Set_B4 a k58 (zkq a k58 n) b c
def m_ref16_Set (a0:List Int):Option (List Int):=
  jn (λ(a:List Bool)=>jn (λ(b:List Int)=>some b) (λ k58=>zkq a k58 FU [] 0)) (λ k2=>m_ref16_Set_L2 a0 k2 FU (List.replicate 1024 (false:Bool)) 0)
def zgd (k1:(List Int)->Int->(List Int)->Option ((List Int)×((List Int)×Int))) (e:(List Int)->Int->(List Int)->Int->Option ((List Int)×((List Int)×Int))) (b:List Int) (c:Int) (a:List Int) (d:Int):Option ((List Int)×((List Int)×Int)):=
  if 0<d then(bnd1 (zdt (b,c)) (λ y20=>need (List.length a+List.length [y20.1]≤137438953472) (e y20.2.1 y20.2.2 (a++[y20.1]) (i64 (d - 1)))))else(k1 b c a)
def zev (k1:(List Int)->Int->(List Int)->Option ((List Int)×((List Int)×Int))):Nat->(List Int)->Int->(List Int)->Int->Option ((List Int)×((List Int)×Int))
  |0,_,_,_,_=>none
  |n+1,a,b,c,d=>zgd k1 (zev k1 n) a b c d
def zej (a0:(List Int)×Int):Option ((List Int)×((List Int)×Int)):=
  jn (λ(a:List Int) (b:Int) (c:List Int)=>bnd1 (m_ref16_Set c) (λ y23=>some (y23,(a,b)))) (λ k1=>bnd1 (zck (a0.1,a0.2) 4) (λ y13=>zev k1 FU y13.2.1 y13.2.2 [] y13.1))
def m_ref9_Sort_B26 (a0:List (List UInt8)) (c:List (List UInt8)) (b:Int) (k955:Int->Option (List (List UInt8))) (d:Int->Option (List (List UInt8))) (a:Int):Option (List (List UInt8)):=
  jn (λ(e:Bool)=>if e then(d (i64 (a - 1)))else(k955 a)) (λ k1040=>if 0<a then(need ((0:Int)≤b/\b<(List.length a0:Int)) (need ((0:Int)≤i64 (a - 1)/\(i64 (a - 1))<(List.length c:Int)) (bnd1 (zmy (gi c (i64 (a - 1))) (gi a0 b)) (λ y1046=>k1040 (decide (0<y1046))))))else(k1040 false))
def m_ref9_Sort_L26 (a0:List (List UInt8)) (a:List (List UInt8)) (b:Int) (k955:Int->Option (List (List UInt8))):Nat->Int->Option (List (List UInt8))
  |0,_=>none
  |n+1,c=>m_ref9_Sort_B26 a0 a b k955 (m_ref9_Sort_L26 a0 a b k955 n) c
def m_ref9_Sort_B14 (a0:List (List UInt8)) (k1:(List (List UInt8))->Option (List (List UInt8))) (d:(List (List UInt8))->Int->Option (List (List UInt8))) (a:List (List UInt8)) (c:Int):Option (List (List UInt8)):=
  if c<(List.length a0:Int)then(jn (λ(e:List (List UInt8))=>d e (i64 (c+1))) (λ k844=>jn (λ(b:Int)=>jn (λ(f:Bool)=>if f then(k844 a)else(need (List.length a+List.length ([([]:List UInt8)])≤137438953472) (need ((0:Int)≤i64 (b+1)/\(i64 (b+1))≤(List.length (a++([([]:List UInt8)])):Int)/\(List.length (a++([([]:List UInt8)])):Int)≤(List.length (a++([([]:List UInt8)])):Int)) (need ((0:Int)≤b/\b≤(List.length (a++([([]:List UInt8)])):Int)/\(List.length (a++([([]:List UInt8)])):Int)≤(List.length (a++([([]:List UInt8)])):Int)) (need ((0:Int)≤c/\c<(List.length a0:Int)) (need ((0:Int)≤b/\b<(List.length (List.take (Int.toNat (i64 (b+1))) (a++([([]:List UInt8)]))++List.take (Nat.min (Int.toNat (List.length (a++([([]:List UInt8)])):Int) - Int.toNat b) (Int.toNat (List.length (a++([([]:List UInt8)])):Int) - Int.toNat (i64 (b+1)))) (List.drop (Int.toNat b) (a++([([]:List UInt8)])))++List.drop (Int.toNat (i64 (b+1))+(Nat.min (Int.toNat (List.length (a++([([]:List UInt8)])):Int) - Int.toNat b) (Int.toNat (List.length (a++([([]:List UInt8)])):Int) - Int.toNat (i64 (b+1))))) (a++([([]:List UInt8)]))):Int)) (k844 (List.set (List.take (Int.toNat (i64 (b+1))) (a++([([]:List UInt8)]))++List.take (Nat.min (Int.toNat (List.length (a++([([]:List UInt8)])):Int) - Int.toNat b) (Int.toNat (List.length (a++([([]:List UInt8)])):Int) - Int.toNat (i64 (b+1)))) (List.drop (Int.toNat b) (a++([([]:List UInt8)])))++List.drop (Int.toNat (i64 (b+1))+(Nat.min (Int.toNat (List.length (a++([([]:List UInt8)])):Int) - Int.toNat b) (Int.toNat (List.length (a++([([]:List UInt8)])):Int) - Int.toNat (i64 (b+1))))) (a++([([]:List UInt8)]))) (Int.toNat b) (gi a0 c))))))))) (λ k1053=>if 0<b then(need ((0:Int)≤c/\c<(List.length a0:Int)) (need ((0:Int)≤i64 (b - 1)/\(i64 (b - 1))<(List.length a:Int)) (k1053 (decide ((gi a (i64 (b - 1)))=(gi a0 c))))))else(k1053 false))) (λ k955=>m_ref9_Sort_L26 a0 a c k955 FU (List.length a:Int))))else(k1 a)
def zll (a0:List (List UInt8)) (k1:(List (List UInt8))->Option (List (List UInt8))):Nat->(List (List UInt8))->Int->Option (List (List UInt8))
  |0,_,_=>none
  |n+1,a,b=>m_ref9_Sort_B14 a0 k1 (zll a0 k1 n) a b
def m_ref9_Sort (a0:List (List UInt8)):Option (List (List UInt8)):=
  jn (λ(a:List (List UInt8))=>some a) (λ k1=>zll a0 k1 FU [] 0)
def m_ref9_Set (a0:List (List UInt8)):Option (List UInt8):=
  bnd1 (m_ref9_all a0) (λ y1=>if !y1 then(some ([]:List UInt8))else(bnd1 (m_ref9_Sort a0) (λ y2=>bnd1 (znl 5 y2) (λ y3=>some y3))))
def zlf (a0:List Int) (k2:Unit->Option (List UInt8)) (b:Int->Option (List UInt8)) (a:Int):Option (List UInt8):=
  if a<(List.length a0:Int)then(need ((0:Int)≤a/\a<(List.length a0:Int)) (bnd1 (zds (gi a0 a)) (λ y15=>if !y15 then(some ([]:List UInt8))else(b (i64 (a+1))))))else(k2 ())
def zie (a0:List Int) (k2:Unit->Option (List UInt8)):Nat->Int->Option (List UInt8)
  |0,_=>none
  |n+1,a=>zlf a0 k2 (zie a0 k2 n) a
def zlm (y1:(List Int)) (k16:(List (List UInt8))->Option (List UInt8)) (c:(List (List UInt8))->Int->Option (List UInt8)) (b:List (List UInt8)) (a:Int):Option (List UInt8):=
  if a<(List.length y1:Int)then(need ((0:Int)≤a/\a<(List.length y1:Int)) (bnd1 (zic (gi y1 a)) (λ y39=>need (List.length b+List.length [y39]≤137438953472) (c (b++[y39]) (i64 (a+1))))))else(k16 b)
def zgk (y1:(List Int)) (k16:(List (List UInt8))->Option (List UInt8)):Nat->(List (List UInt8))->Int->Option (List UInt8)
  |0,_,_=>none
  |n+1,a,b=>zlm y1 k16 (zgk y1 k16 n) a b
def zhp (a0:List Int):Option (List UInt8):=
  bnd1 (m_ref16_Set a0) (λ y1=>jn (λ(_:Unit)=>jn (λ(a:List (List UInt8))=>bnd1 (m_ref9_Set a) (λ y42=>some y42)) (λ k16=>zgk y1 k16 FU [] 0)) (λ k2=>zie a0 k2 FU 0))
def m_ref16_Guarded (a0:Int) (a1:List UInt8) (a2:List Int) (a3:List UInt8):Option (List UInt8):=
  bnd1 (zgw a0) (λ y1=>if¬y1=[80,83,80]then(some ([]:List UInt8))else(bnd1 (zhp a2) (λ y2=>bnd1 (zbs a0 [a1,y2,a3]) (λ y3=>some y3))))
def zki (a0:List (Int×Int)) (b:List (Int×Int)) (c:Int) (k1183:Int->Option (List (Int×Int))) (d:Int->Option (List (Int×Int))) (a:Int):Option (List (Int×Int)):=
  jn (λ(e:Bool)=>if e then(d (i64 (a+1)))else(k1183 a)) (λ k1268=>if a<(List.length b:Int)then(need ((0:Int)≤c/\c<(List.length a0:Int)) (need ((0:Int)≤a/\a<(List.length b:Int)) (bnd1 (zmx (gi b a) (gi a0 c)) (λ y1274=>k1268 y1274))))else(k1268 false))
def zhk (a0:List (Int×Int)) (a:List (Int×Int)) (b:Int) (k1183:Int->Option (List (Int×Int))):Nat->Int->Option (List (Int×Int))
  |0,_=>none
  |n+1,c=>zki a0 a b k1183 (zhk a0 a b k1183 n) c
def zkh (a0:List (Int×Int)) (k1:(List (Int×Int))->Option (List (Int×Int))) (d:(List (Int×Int))->Int->Option (List (Int×Int))) (a:List (Int×Int)) (c:Int):Option (List (Int×Int)):=
  if c<(List.length a0:Int)then(jn (λ(e:List (Int×Int))=>d e (i64 (c+1))) (λ k1034=>jn (λ(f:Bool)=>if f then(k1034 a)else(jn (λ(b:Int)=>jn (λ(g:Bool)=>if g then(k1034 a)else(need (List.length a+List.length [(0,0)]≤137438953472) (need ((0:Int)≤i64 (b+1)/\(i64 (b+1))≤(List.length (a++[(0,0)]):Int)/\(List.length (a++[(0,0)]):Int)≤(List.length (a++[(0,0)]):Int)) (need ((0:Int)≤b/\b≤(List.length (a++[(0,0)]):Int)/\(List.length (a++[(0,0)]):Int)≤(List.length (a++[(0,0)]):Int)) (need ((0:Int)≤c/\c<(List.length a0:Int)) (need ((0:Int)≤b/\b<(List.length (List.take (Int.toNat (i64 (b+1))) (a++[(0,0)])++List.take (Nat.min (Int.toNat (List.length (a++[(0,0)]):Int) - Int.toNat b) (Int.toNat (List.length (a++[(0,0)]):Int) - Int.toNat (i64 (b+1)))) (List.drop (Int.toNat b) (a++[(0,0)]))++List.drop (Int.toNat (i64 (b+1))+(Nat.min (Int.toNat (List.length (a++[(0,0)]):Int) - Int.toNat b) (Int.toNat (List.length (a++[(0,0)]):Int) - Int.toNat (i64 (b+1))))) (a++[(0,0)])):Int)) (k1034 (List.set (List.take (Int.toNat (i64 (b+1))) (a++[(0,0)])++List.take (Nat.min (Int.toNat (List.length (a++[(0,0)]):Int) - Int.toNat b) (Int.toNat (List.length (a++[(0,0)]):Int) - Int.toNat (i64 (b+1)))) (List.drop (Int.toNat b) (a++[(0,0)]))++List.drop (Int.toNat (i64 (b+1))+(Nat.min (Int.toNat (List.length (a++[(0,0)]):Int) - Int.toNat b) (Int.toNat (List.length (a++[(0,0)]):Int) - Int.toNat (i64 (b+1))))) (a++[(0,0)])) (Int.toNat b) (gi a0 c))))))))) (λ k1281=>if b<(List.length a:Int)then(need ((0:Int)≤c/\c<(List.length a0:Int)) (need ((0:Int)≤b/\b<(List.length a:Int)) (k1281 (decide ((gi a b)=(gi a0 c))))))else(k1281 false))) (λ k1183=>zhk a0 a c k1183 FU 0))) (λ k1174=>need ((0:Int)≤c/\c<(List.length a0:Int)) (bnd1 (zds ((gi a0 c).1)) (λ y1180=>if !y1180 then(k1174 true)else(need ((0:Int)≤c/\c<(List.length a0:Int)) (bnd1 (zds ((gi a0 c).2)) (λ y1182=>k1174 (!y1182)))))))))else(k1 a)
def zdw (a0:List (Int×Int)) (k1:(List (Int×Int))->Option (List (Int×Int))):Nat->(List (Int×Int))->Int->Option (List (Int×Int))
  |0,_,_=>none
  |n+1,a,b=>zkh a0 k1 (zdw a0 k1 n) a b
def zcu (a0:List (Int×Int)):Option (List (Int×Int)):=
  jn (λ(a:List (Int×Int))=>some a) (λ k1=>zdw a0 k1 FU [] 0)
def zhx (k1:(List Int)->Int->(List (Int×Int))->Option ((List (Int×Int))×((List Int)×Int))) (e:(List Int)->Int->(List (Int×Int))->Int->Option ((List (Int×Int))×((List Int)×Int))) (b:List Int) (c:Int) (a:List (Int×Int)) (d:Int):Option ((List (Int×Int))×((List Int)×Int)):=
  if 0<d then(bnd1 (zdt (b,c)) (λ y25=>bnd1 (zdt (y25.2.1,y25.2.2)) (λ y26=>need (List.length a+List.length [(y25.1,y26.1)]≤137438953472) (e y26.2.1 y26.2.2 (a++[(y25.1,y26.1)]) (i64 (d - 1))))))else(k1 b c a)
def zgb (k1:(List Int)->Int->(List (Int×Int))->Option ((List (Int×Int))×((List Int)×Int))):Nat->(List Int)->Int->(List (Int×Int))->Int->Option ((List (Int×Int))×((List Int)×Int))
  |0,_,_,_,_=>none
  |n+1,a,b,c,d=>zhx k1 (zgb k1 n) a b c d
def zik (a0:(List Int)×Int):Option ((List (Int×Int))×((List Int)×Int)):=
  jn (λ(a:List Int) (b:Int) (c:List (Int×Int))=>bnd1 (zcu c) (λ y29=>some (y29,(a,b)))) (λ k1=>bnd1 (zck (a0.1,a0.2) 4) (λ y16=>zgb k1 FU y16.2.1 y16.2.2 [] y16.1))
def zjd (a0:List (Int×Int)) (k1:Unit->Option (List UInt8)) (b:Int->Option (List UInt8)) (a:Int):Option (List UInt8):=
  if a<(List.length a0:Int)then(jn (λ(c:Bool)=>if c then(some ([]:List UInt8))else(b (i64 (a+1)))) (λ k108=>need ((0:Int)≤a/\a<(List.length a0:Int)) (bnd1 (zds ((gi a0 a).1)) (λ y114=>if !y114 then(k108 true)else(need ((0:Int)≤a/\a<(List.length a0:Int)) (bnd1 (zds ((gi a0 a).2)) (λ y116=>k108 (!y116))))))))else(k1 ())
def zgt (a0:List (Int×Int)) (k1:Unit->Option (List UInt8)):Nat->Int->Option (List UInt8)
  |0,_=>none
  |n+1,a=>zjd a0 k1 (zgt a0 k1 n) a
def ziv (y117:(List (Int×Int))) (k118:(List (List UInt8))->Option (List UInt8)) (c:(List (List UInt8))->Int->Option (List UInt8)) (b:List (List UInt8)) (a:Int):Option (List UInt8):=
  if a<(List.length y117:Int)then(need ((0:Int)≤a/\a<(List.length y117:Int)) (bnd1 (zic ((gi y117 a).1)) (λ y156=>need ((0:Int)≤a/\a<(List.length y117:Int)) (bnd1 (zic ((gi y117 a).2)) (λ y158=>bnd1 (m_ref9_Make 3 [y156,y158]) (λ y159=>need (List.length b+List.length [y159]≤137438953472) (c (b++[y159]) (i64 (a+1)))))))))else(k118 b)
def zfc (y117:(List (Int×Int))) (k118:(List (List UInt8))->Option (List UInt8)):Nat->(List (List UInt8))->Int->Option (List UInt8)
  |0,_,_=>none
  |n+1,a,b=>ziv y117 k118 (zfc y117 k118 n) a b
def zec (a0:List (Int×Int)):Option (List UInt8):=
  jn (λ(_:Unit)=>bnd1 (zcu a0) (λ y117=>jn (λ(a:List (List UInt8))=>bnd1 (m_ref9_Set a) (λ y162=>some y162)) (λ k118=>zfc y117 k118 FU [] 0))) (λ k1=>zgt a0 k1 FU 0)
def zhz (k1:(List Int)->Int->(List (Int×Int))->Option ((List (Int×Int))×((List Int)×Int))) (e:(List Int)->Int->(List (Int×Int))->Int->Option ((List (Int×Int))×((List Int)×Int))) (b:List Int) (c:Int) (a:List (Int×Int)) (d:Int):Option ((List (Int×Int))×((List Int)×Int)):=
  if 0<d then(jn (λ(f:List Int) (g:Int) (h:List (Int×Int))=>e f g h (i64 (d - 1))) (λ k50=>bnd1 (zdt (b,c)) (λ y55=>bnd1 (zdt (y55.2.1,y55.2.2)) (λ y56=>if¬y55.1=y56.1 then(need (List.length a+List.length [(min y55.1 y56.1,max y55.1 y56.1)]≤137438953472) (k50 y56.2.1 y56.2.2 (a++[(min y55.1 y56.1,max y55.1 y56.1)])))else(k50 y56.2.1 y56.2.2 a)))))else(k1 b c a)
def zfz (k1:(List Int)->Int->(List (Int×Int))->Option ((List (Int×Int))×((List Int)×Int))):Nat->(List Int)->Int->(List (Int×Int))->Int->Option ((List (Int×Int))×((List Int)×Int))
  |0,_,_,_,_=>none
  |n+1,a,b,c,d=>zhz k1 (zfz k1 n) a b c d
def zlj (a0:(List Int)×Int):Option ((List (Int×Int))×((List Int)×Int)):=
  jn (λ(a:List Int) (b:Int) (c:List (Int×Int))=>bnd1 (m_rclose zcu c) (λ y59=>some (y59.1,(a,b)))) (λ k1=>bnd1 (zck (a0.1,a0.2) 4) (λ y31=>zfz k1 FU y31.2.1 y31.2.2 [] y31.1))
def zfh (e:((List Int)×Int)->Int->Int->Option ((List UInt8)×((List Int)×Int))) (a1:Int) (a2:Int) (k126:(List Int)->Int->(List (Int×(List UInt8)))->Option ((List UInt8)×((List Int)×Int))) (f:(List Int)->Int->(List (Int×(List UInt8)))->Int->Option ((List UInt8)×((List Int)×Int))) (b:List Int) (c:Int) (a:List (Int×(List UInt8))) (d:Int):Option ((List UInt8)×((List Int)×Int)):=
  if 0<d then(bnd1 (zdt (b,c)) (λ y150=>bnd1 (e (y150.2.1,y150.2.2) (i64 (a1 - 1)) a2) (λ y151=>need (List.length a+List.length [(y150.1,y151.1)]≤137438953472) (f y151.2.1 y151.2.2 (a++[(y150.1,y151.1)]) (i64 (d - 1))))))else(k126 b c a)
def zee (a:((List Int)×Int)->Int->Int->Option ((List UInt8)×((List Int)×Int))) (a1:Int) (a2:Int) (k126:(List Int)->Int->(List (Int×(List UInt8)))->Option ((List UInt8)×((List Int)×Int))):Nat->(List Int)->Int->(List (Int×(List UInt8)))->Int->Option ((List UInt8)×((List Int)×Int))
  |0,_,_,_,_=>none
  |n+1,b,c,d,e=>zfh a a1 a2 k126 (zee a a1 a2 k126 n) b c d e
def zfg (y194:(List (Int×Int))×((List Int)×Int)) (k195:(List (Int×Int))->Option ((List UInt8)×((List Int)×Int))) (c:(List (Int×Int))->Int->Option ((List UInt8)×((List Int)×Int))) (b:List (Int×Int)) (a:Int):Option ((List UInt8)×((List Int)×Int)):=
  if a<(List.length y194.1:Int)then(need ((0:Int)≤a/\a<(List.length y194.1:Int)) (need ((0:Int)≤a/\a<(List.length y194.1:Int)) (need (List.length b+List.length [((gi y194.1 a).1,(gi y194.1 a).2)]≤137438953472) (c (b++[((gi y194.1 a).1,(gi y194.1 a).2)]) (i64 (a+1))))))else(k195 b)
def zed (y194:(List (Int×Int))×((List Int)×Int)) (k195:(List (Int×Int))->Option ((List UInt8)×((List Int)×Int))):Nat->(List (Int×Int))->Int->Option ((List UInt8)×((List Int)×Int))
  |0,_,_=>none
  |n+1,a,b=>zfg y194 k195 (zed y194 k195 n) a b
def zfs (b:((List Int)×Int)->Int->Int->Option ((List UInt8)×((List Int)×Int))) (a0:(List Int)×Int) (a1:Int) (a2:Int):Option ((List UInt8)×((List Int)×Int)):=
  bnd1 (zck (a0.1,a0.2) 22) (λ y1=>jn (λ(a:Int)=>jn (λ(_:Unit)=>bnd1 (b (y1.2.1,y1.2.2) (i64 (a1 - 1)) a2) (λ y224=>bnd1 (zbs 19 [y224.1]) (λ y225=>some (y225,(y224.2.1,y224.2.2))))) (λ k3=>if a=0 then(if 0<a2 then(bnd1 (zck (y1.2.1,y1.2.2) a2) (λ y115=>bnd1 (m_ref16_Call y115.1 ([]:List (List UInt8))) (λ y116=>some (y116,(y115.2.1,y115.2.2)))))else(bnd1 (zbs 1 ([]:List (List UInt8))) (λ y117=>some (y117,(y1.2.1,y1.2.2)))))else(if a=1 then(bnd1 (zbs 1 ([]:List (List UInt8))) (λ y118=>some (y118,(y1.2.1,y1.2.2))))else(if a=2 then(bnd1 (zbs 2 ([]:List (List UInt8))) (λ y119=>some (y119,(y1.2.1,y1.2.2))))else(if a=3 then(bnd1 (zck (y1.2.1,y1.2.2) 4) (λ y120=>if y120.1=3 then(bnd1 (zbs 3 ([]:List (List UInt8))) (λ y121=>some (y121,(y120.2.1,y120.2.2))))else(bnd1 (zdt (y120.2.1,y120.2.2)) (λ y122=>bnd1 (zbs 2 ([]:List (List UInt8))) (λ y123=>bnd1 (zge [(y122.1,y123)]) (λ y124=>some (y124,(y122.2.1,y122.2.2))))))))else(jn (λ(c:Bool)=>if c then(jn (λ(d:List Int) (e:Int) (f:List (Int×(List UInt8)))=>bnd1 (zge f) (λ y154=>some (y154,(d,e)))) (λ k126=>bnd1 (zck (y1.2.1,y1.2.2) 2) (λ y141=>zee b a1 a2 k126 FU y141.2.1 y141.2.2 [] (i64 (1+y141.1)))))else(jn (λ(g:Bool)=>if g then(bnd1 (zck (y1.2.1,y1.2.2) 5) (λ y156=>need ((0:Int)≤y156.1/\y156.1<(List.length [7,8,9,10,11]:Int)) (bnd1 (b (y156.2.1,y156.2.2) (i64 (a1 - 1)) a2) (λ y158=>bnd1 (b (y158.2.1,y158.2.2) (i64 (a1 - 1)) a2) (λ y159=>bnd1 (zmw (gi [7,8,9,10,11] y156.1) y158.1 y159.1) (λ y160=>some (y160,(y159.2.1,y159.2.2))))))))else(if a=11 then(bnd1 (b (y1.2.1,y1.2.2) (i64 (a1 - 1)) a2) (λ y161=>bnd1 (b (y161.2.1,y161.2.2) (i64 (a1 - 1)) a2) (λ y162=>bnd1 (zmw 7 y161.1 y162.1) (λ y163=>some (y163,(y162.2.1,y162.2.2))))))else(if a=12 then(bnd1 (b (y1.2.1,y1.2.2) (i64 (a1 - 1)) a2) (λ y164=>bnd1 (b (y164.2.1,y164.2.2) (i64 (a1 - 1)) a2) (λ y165=>bnd1 (zmw 9 y164.1 y165.1) (λ y166=>some (y166,(y165.2.1,y165.2.2))))))else(jn (λ(h:Bool)=>if h then(bnd1 (zck (y1.2.1,y1.2.2) 3) (λ y168=>need ((0:Int)≤y168.1/\y168.1<(List.length [12,13,16]:Int)) (bnd1 (b (y168.2.1,y168.2.2) (i64 (a1 - 1)) a2) (λ y170=>bnd1 (zej (y170.2.1,y170.2.2)) (λ y171=>bnd1 (b (y171.2.1,y171.2.2) (i64 (a1 - 1)) a2) (λ y172=>bnd1 (m_ref16_Guarded (gi [12,13,16] y168.1) y170.1 y171.1 y172.1) (λ y173=>some (y173,(y172.2.1,y172.2.2)))))))))else(if a=16 then(bnd1 (b (y1.2.1,y1.2.2) (i64 (a1 - 1)) a2) (λ y174=>bnd1 (zej (y174.2.1,y174.2.2)) (λ y175=>bnd1 (zhp y175.1) (λ y176=>bnd1 (zej (y175.2.1,y175.2.2)) (λ y177=>bnd1 (zhp y177.1) (λ y178=>bnd1 (b (y177.2.1,y177.2.2) (i64 (a1 - 1)) a2) (λ y179=>bnd1 (zbs 17 [y174.1,y176,y178,y179.1]) (λ y180=>some (y180,(y179.2.1,y179.2.2))))))))))else(if a=17 then(bnd1 (b (y1.2.1,y1.2.2) (i64 (a1 - 1)) a2) (λ y181=>bnd1 (zik (y181.2.1,y181.2.2)) (λ y182=>bnd1 (zec y182.1) (λ y183=>bnd1 (b (y182.2.1,y182.2.2) (i64 (a1 - 1)) a2) (λ y184=>bnd1 (zbs 20 [y181.1,y183,y184.1]) (λ y185=>some (y185,(y184.2.1,y184.2.2))))))))else(if a=18 then(bnd1 (b (y1.2.1,y1.2.2) (i64 (a1 - 1)) a2) (λ y186=>bnd1 (zej (y186.2.1,y186.2.2)) (λ y187=>bnd1 (zhp y187.1) (λ y188=>bnd1 (zbs 14 [y186.1,y188]) (λ y189=>some (y189,(y187.2.1,y187.2.2)))))))else(if a=19 then(bnd1 (b (y1.2.1,y1.2.2) (i64 (a1 - 1)) a2) (λ y190=>bnd1 (zik (y190.2.1,y190.2.2)) (λ y191=>bnd1 (zec y191.1) (λ y192=>bnd1 (zbs 15 [y190.1,y192]) (λ y193=>some (y193,(y191.2.1,y191.2.2)))))))else(if a=20 then(bnd1 (zlj (y1.2.1,y1.2.2)) (λ y194=>jn (λ(i:List (Int×Int))=>bnd1 (b (y194.2.1,y194.2.2) (i64 (a1 - 1)) a2) (λ y221=>bnd1 (zec i) (λ y222=>bnd1 (zbs 18 [y221.1,y222]) (λ y223=>some (y223,(y221.2.1,y221.2.2)))))) (λ k195=>zed y194 k195 FU [] 0)))else(k3 ()))))))) (λ k167=>if a=13 then(k167 (decide (a=13)))else(if a=14 then(k167 (decide (a=14)))else(k167 (decide (a=15))))))))) (λ k155=>if a=9 then(k155 (decide (a=9)))else(k155 (decide (a=10)))))) (λ k125=>if a=4 then(k125 (decide (a=4)))else(if a=5 then(k125 (decide (a=5)))else(if a=6 then(k125 (decide (a=6)))else(if a=7 then(k125 (decide (a=7)))else(k125 (decide (a=8))))))))))))) (λ k2=>if a1≤1 then(k2 (Int.tmod y1.1 5))else(k2 y1.1)))
def zdx:Nat->(((List Int)×Int)->Int->Int->Option ((List UInt8)×((List Int)×Int)))
  |0=>(λ _ _ _=>none)
  |n+1=>zfs (zdx n)
def zfx (a0:(List Int)×Int) (a1:Int) (a2:Int):Option ((List UInt8)×((List Int)×Int)):=zdx FU a0 a1 a2
def m_ref16_Op (a0:List UInt8):Option Int:=
  bnd1 (zmo a0) (λ y1=>if !y1 then(some 0)else(bnd1 (zgq a0) (λ y2=>need ((0:Int)≤0/\0<(List.length y2:Int)) (bnd1 (zfq (gi y2 0)) (λ y4=>some y4)))))
def zkz (y2:(List (List UInt8))) (k25:(List (List UInt8))->Option (List (List UInt8))) (c:(List (List UInt8))->Int->Option (List (List UInt8))) (b:List (List UInt8)) (a:Int):Option (List (List UInt8)):=
  if a<(List.length y2:Int)then(need ((0:Int)≤a/\a<(List.length y2:Int)) (need (List.length b+List.length [gi y2 a]≤137438953472) (c (b++[gi y2 a]) (i64 (a+2)))))else(k25 b)
def zib (y2:(List (List UInt8))) (k25:(List (List UInt8))->Option (List (List UInt8))):Nat->(List (List UInt8))->Int->Option (List (List UInt8))
  |0,_,_=>none
  |n+1,a,b=>zkz y2 k25 (zib y2 k25 n) a b
def zgj (y2:(List (List UInt8))) (y45:(List UInt8)) (k46:(List (List UInt8))->Option (List (List UInt8))) (c:(List (List UInt8))->Int->Option (List (List UInt8))) (b:List (List UInt8)) (a:Int):Option (List (List UInt8)):=
  if a<(List.length y45:Int)then(jn (λ(d:List (List UInt8))=>c d (i64 (a+1))) (λ k93=>need ((0:Int)≤a/\a<(List.length y45:Int)) (if(gi y45 a)=80 then(need ((0:Int)≤i64 (a+1)/\(i64 (a+1))<(List.length y2:Int)) (need (List.length b+List.length [gi y2 (i64 (a+1))]≤137438953472) (k93 (b++[gi y2 (i64 (a+1))]))))else(k93 b))))else(k46 b)
def zfj (y2:(List (List UInt8))) (y45:(List UInt8)) (k46:(List (List UInt8))->Option (List (List UInt8))):Nat->(List (List UInt8))->Int->Option (List (List UInt8))
  |0,_,_=>none
  |n+1,a,b=>zgj y2 y45 k46 (zfj y2 y45 k46 n) a b
def zlu (a0:List UInt8):Option (List (List UInt8)):=
  bnd1 (m_ref16_Op a0) (λ y1=>bnd1 (zgq a0) (λ y2=>jn (λ(_:Unit)=>bnd1 (zgw y1) (λ y45=>jn (λ(a:List (List UInt8))=>some a) (λ k46=>zfj y2 y45 k46 FU [] 0))) (λ k3=>if y1=6 then(jn (λ(b:List (List UInt8))=>some b) (λ k25=>zib y2 k25 FU [] 2))else(k3 ()))))
def znk (y2:(List (List UInt8))) (k3:(List (Int×(List UInt8)))->Option (List (Int×(List UInt8)))) (c:(List (Int×(List UInt8)))->Int->Option (List (Int×(List UInt8)))) (b:List (Int×(List UInt8))) (a:Int):Option (List (Int×(List UInt8))):=
  if a<(List.length y2:Int)then(need ((0:Int)≤a/\a<(List.length y2:Int)) (bnd1 (zfq (gi y2 a)) (λ y31=>need ((0:Int)≤i64 (a+1)/\(i64 (a+1))<(List.length y2:Int)) (need (List.length b+List.length [(y31,gi y2 (i64 (a+1)))]≤137438953472) (c (b++[(y31,gi y2 (i64 (a+1)))]) (i64 (a+2)))))))else(k3 b)
def zkt (y2:(List (List UInt8))) (k3:(List (Int×(List UInt8)))->Option (List (Int×(List UInt8)))):Nat->(List (Int×(List UInt8)))->Int->Option (List (Int×(List UInt8)))
  |0,_,_=>none
  |n+1,a,b=>znk y2 k3 (zkt y2 k3 n) a b
def m_ref16_Offers (a0:List UInt8):Option (List (Int×(List UInt8))):=
  bnd1 (m_ref16_Op a0) (λ y1=>if¬y1=6 then(some [])else(bnd1 (zgq a0) (λ y2=>jn (λ(a:List (Int×(List UInt8)))=>some a) (λ k3=>zkt y2 k3 FU [] 1))))
def m_ref16_With_B4 (a1:List (List UInt8)) (y35:(List (Int×(List UInt8)))) (k36:(List (Int×(List UInt8)))->Option (List UInt8)) (c:(List (Int×(List UInt8)))->Int->Option (List UInt8)) (b:List (Int×(List UInt8))) (a:Int):Option (List UInt8):=
  if a<(List.length y35:Int)then(need ((0:Int)≤a/\a<(List.length y35:Int)) (need ((0:Int)≤a/\a<(List.length a1:Int)) (need (List.length b+List.length [((gi y35 a).1,gi a1 a)]≤137438953472) (c (b++[((gi y35 a).1,gi a1 a)]) (i64 (a+1))))))else(k36 b)
def znr (a1:List (List UInt8)) (y35:(List (Int×(List UInt8)))) (k36:(List (Int×(List UInt8)))->Option (List UInt8)):Nat->(List (Int×(List UInt8)))->Int->Option (List UInt8)
  |0,_,_=>none
  |n+1,a,b=>m_ref16_With_B4 a1 y35 k36 (znr a1 y35 k36 n) a b
def zni (a1:List (List UInt8)) (y63:(List UInt8)) (k64:(List (List UInt8))->Option (List UInt8)) (d:(List (List UInt8))->Int->Int->Option (List UInt8)) (c:List (List UInt8)) (b:Int) (a:Int):Option (List UInt8):=
  if a<(List.length y63:Int)then(jn (λ(e:List (List UInt8)) (f:Int)=>d e f (i64 (a+1))) (λ k101=>need ((0:Int)≤a/\a<(List.length y63:Int)) (if(gi y63 a)=80 then(need ((0:Int)≤b/\b<(List.length a1:Int)) (need ((0:Int)≤i64 (a+1)/\(i64 (a+1))<(List.length c:Int)) (k101 (List.set c (Int.toNat (i64 (a+1))) (gi a1 b)) (i64 (b+1)))))else(k101 c b))))else(k64 c)
def zlc (a1:List (List UInt8)) (y63:(List UInt8)) (k64:(List (List UInt8))->Option (List UInt8)):Nat->(List (List UInt8))->Int->Int->Option (List UInt8)
  |0,_,_,_=>none
  |n+1,a,b,c=>zni a1 y63 k64 (zlc a1 y63 k64 n) a b c
def m_ref16_With (a0:List UInt8) (a1:List (List UInt8)):Option (List UInt8):=
  bnd1 (m_ref16_Op a0) (λ y1=>bnd1 (zgq a0) (λ y2=>need (List.length y2≤137438953472) (jn (λ(_:Unit)=>bnd1 (zgw y1) (λ y63=>jn (λ(a:List (List UInt8))=>need (1≤(List.length a:Int)) (bnd1 (zbs y1 (List.drop (Int.toNat 1) a)) (λ y109=>some y109))) (λ k64=>zlc a1 y63 k64 FU y2 0 0))) (λ k5=>if y1=6 then(bnd1 (m_ref16_Offers a0) (λ y35=>jn (λ(b:List (Int×(List UInt8)))=>bnd1 (zge b) (λ y62=>some y62)) (λ k36=>znr a1 y35 k36 FU [] 0)))else(k5 ())))))
def m_law16_holed_B2 (e:((List Int)×Int)->Int->Option ((List UInt8)×((List Int)×Int))) (a1:Int) (k17:(List Int)->Int->(List (List UInt8))->Option ((List UInt8)×((List Int)×Int))) (f:(List Int)->Int->(List (List UInt8))->Int->Option ((List UInt8)×((List Int)×Int))) (c:List Int) (d:Int) (b:List (List UInt8)) (a:Int):Option ((List UInt8)×((List Int)×Int)):=
  if a<(List.length b:Int)then(bnd1 (e (c,d) (i64 (a1 - 1))) (λ y29=>need ((0:Int)≤a/\a<(List.length b:Int)) (f y29.2.1 y29.2.2 (List.set b (Int.toNat a) y29.1) (i64 (a+1)))))else(k17 c d b)
def zlv (a:((List Int)×Int)->Int->Option ((List UInt8)×((List Int)×Int))) (a1:Int) (k17:(List Int)->Int->(List (List UInt8))->Option ((List UInt8)×((List Int)×Int))):Nat->(List Int)->Int->(List (List UInt8))->Int->Option ((List UInt8)×((List Int)×Int))
  |0,_,_,_,_=>none
  |n+1,b,c,d,e=>m_law16_holed_B2 a a1 k17 (zlv a a1 k17 n) b c d e
def m_law16_holed_F (c:((List Int)×Int)->Int->Option ((List UInt8)×((List Int)×Int))) (a0:(List Int)×Int) (a1:Int):Option ((List UInt8)×((List Int)×Int)):=
  jn (λ(a:List Int) (b:Int) (d:Bool)=>if d then(bnd1 (zck (a,b) 4) (λ y11=>bnd1 (zic y11.1) (λ y12=>bnd1 (zbs 21 [y12]) (λ y13=>some (y13,(y11.2.1,y11.2.2))))))else(bnd1 (zfx (a,b) 2 1) (λ y14=>bnd1 (zlu y14.1) (λ y15=>if(List.length y15:Int)=0 then(some (y14.1,(y14.2.1,y14.2.2)))else(jn (λ(e:List Int) (f:Int) (g:List (List UInt8))=>bnd1 (m_ref16_With y14.1 g) (λ y31=>some (y31,(e,f)))) (λ k17=>zlv c a1 k17 FU y14.2.1 y14.2.2 y15 0)))))) (λ k8=>if a1=0 then(k8 a0.1 a0.2 true)else(bnd1 (zck (a0.1,a0.2) 4) (λ y10=>k8 y10.2.1 y10.2.2 (decide (y10.1=0)))))
def zje:Nat->(((List Int)×Int)->Int->Option ((List UInt8)×((List Int)×Int)))
  |0=>(λ _ _=>none)
  |n+1=>m_law16_holed_F (zje n)
def m_law16_holed (a0:(List Int)×Int) (a1:Int):Option ((List UInt8)×((List Int)×Int)):=zje FU a0 a1
def m_cmp_isNaN_byte (a0:UInt8):Option Bool:=
  some (decide (¬a0=a0))
def zma (a0:UInt8) (a1:UInt8):Option Int:=
  bnd1 (m_cmp_isNaN_byte a0) (λ y1=>bnd1 (m_cmp_isNaN_byte a1) (λ y2=>if y1 then(if y2 then(some 0)else(some (-1)))else(if y2 then(some 1)else(if a0<a1 then(some (-1))else(if a1<a0 then(some 1)else(some 0))))))
def zmm (a0:List UInt8) (k1:Int->Option Int) (c:Int->Int->Option Int) (b:Int) (a:Int):Option Int:=
  if a<9 then(need ((0:Int)≤a/\a<(List.length a0:Int)) (c (bOr .u64 (IntKind.u64.wrap (b*2^min (Int.toNat 8) IntKind.u64.bits)) (UInt8.toNat (gi a0 a):Int)) (i64 (a+1))))else(k1 b)
def zjs (a0:List UInt8) (k1:Int->Option Int):Nat->Int->Int->Option Int
  |0,_,_=>none
  |n+1,a,b=>zmm a0 k1 (zjs a0 k1 n) a b
def zhe (a0:List UInt8):Option Int:=
  jn (λ(a:Int)=>some (i64 (a))) (λ k1=>zjs a0 k1 FU 0 1)
def znn (a0:Int):Option Bool:=
  some (decide (¬a0=a0))
def zky (a0:Int) (a1:Int):Option Int:=
  bnd1 (znn a0) (λ y1=>bnd1 (znn a1) (λ y2=>if y1 then(if y2 then(some 0)else(some (-1)))else(if y2 then(some 1)else(if a0<a1 then(some (-1))else(if a1<a0 then(some 1)else(some 0))))))
def m_value_simple (a0:Int):Option Bool:=
  jn (λ(a:Bool)=>some a) (λ k1=>if a0=0 then(k1 true)else(if a0=1 then(k1 true)else(if a0=2 then(k1 true)else(k1 (decide (a0=10))))))
def ziy (a0:List UInt8):Option Bool:=
  some (decide (¬a0=a0))
def zfp (a0:List UInt8) (a1:List UInt8):Option Int:=
  bnd1 (ziy a0) (λ y1=>bnd1 (ziy a1) (λ y2=>if y1 then(if y2 then(some 0)else(some (-1)))else(if y2 then(some 1)else(if ltS a0 a1 then(some (-1))else(if ltS a1 a0 then(some 1)else(some 0))))))
def m_value_span_B2 (c:(List UInt8)->Option Int) (a0:List UInt8) (k2:Int->Option Int) (d:Int->Int->Option Int) (a:Int) (b:Int):Option Int:=
  if b<(bOr .i64 (i64 ((UInt8.toNat (gi a0 1):Int)*2^min (Int.toNat 8) IntKind.i64.bits)) (UInt8.toNat (gi a0 2):Int))then(need ((0:Int)≤a/\a≤(List.length a0:Int)) (bnd1 (c (List.drop (Int.toNat a) a0)) (λ y19=>d (i64 (a+y19)) (i64 (b+1)))))else(k2 a)
def zns (a:(List UInt8)->Option Int) (a0:List UInt8) (k2:Int->Option Int):Nat->Int->Int->Option Int
  |0,_,_=>none
  |n+1,b,c=>m_value_span_B2 a a0 k2 (zns a a0 k2 n) b c
def m_value_span_F (a:(List UInt8)->Option Int) (a0:List UInt8):Option Int:=
  need ((0:Int)≤0/\0<(List.length a0:Int)) (if(gi a0 0)=1 then(some 9)else(if(gi a0 0)=2 then(some 2)else(if(gi a0 0)=10 then(some 3)else(jn (λ(b:Int)=>some b) (λ k2=>need ((0:Int)≤1/\1<(List.length a0:Int)) (need ((0:Int)≤2/\2<(List.length a0:Int)) (zns a a0 k2 FU 3 0)))))))
def zna:Nat->((List UInt8)->Option Int)
  |0=>(λ _=>none)
  |n+1=>m_value_span_F (zna n)
def m_value_span (a0:List UInt8):Option Int:=zna FU a0
def zbp (a0:List (List UInt8)):Option (List (List UInt8)):=
  need (0≤(List.length a0:Int)) (some (List.take (Int.toNat (List.length a0:Int)) a0))
def m_value_parts_B2 (a0:List UInt8) (k1:(List (List UInt8))->Option (List (List UInt8))) (c:(List (List UInt8))->Int->Option (List (List UInt8))) (b:List (List UInt8)) (a:Int):Option (List (List UInt8)):=
  if a<(List.length a0:Int)then(need ((0:Int)≤a/\a≤(List.length a0:Int)) (bnd1 (m_value_span (List.drop (Int.toNat a) a0)) (λ y29=>need ((0:Int)≤a/\a≤i64 (a+y29)/\(i64 (a+y29))≤(List.length a0:Int)) (need (List.length b+List.length [List.take (Int.toNat (i64 (a+y29)) - Int.toNat a) (List.drop (Int.toNat a) a0)]≤137438953472) (c (b++[List.take (Int.toNat (i64 (a+y29)) - Int.toNat a) (List.drop (Int.toNat a) a0)]) (i64 (a+y29)))))))else(k1 b)
def zlx (a0:List UInt8) (k1:(List (List UInt8))->Option (List (List UInt8))):Nat->(List (List UInt8))->Int->Option (List (List UInt8))
  |0,_,_=>none
  |n+1,a,b=>m_value_parts_B2 a0 k1 (zlx a0 k1 n) a b
def m_value_parts (a0:List UInt8):Option (List (List UInt8)):=
  jn (λ(a:List (List UInt8))=>bnd1 (zbp a) (λ y33=>some y33)) (λ k1=>zlx a0 k1 FU [] 3)
def zbk (a0:List (List UInt8)) (a1:List (List UInt8)) (a2:(List UInt8)->(List UInt8)->Option Int) (k1:Unit->Option Int) (b:Int->Option Int) (a:Int):Option Int:=
  if a<(List.length a0:Int)then(need ((0:Int)≤a/\a<(List.length a0:Int)) (if(List.length a1:Int)≤a then(some 1)else(need ((0:Int)≤a/\a<(List.length a1:Int)) (bnd1 (a2 (gi a0 a) (gi a1 a)) (λ y20=>if¬y20=0 then(some y20)else(b (i64 (a+1))))))))else(k1 ())
def zbg (a0:List (List UInt8)) (a1:List (List UInt8)) (a2:(List UInt8)->(List UInt8)->Option Int) (k1:Unit->Option Int):Nat->Int->Option Int
  |0,_=>none
  |n+1,a=>zbk a0 a1 a2 k1 (zbg a0 a1 a2 k1 n) a
def zbm (a0:List (List UInt8)) (a1:List (List UInt8)) (a2:(List UInt8)->(List UInt8)->Option Int):Option Int:=
  jn (λ(_:Unit)=>if(List.length a0:Int)<(List.length a1:Int)then(some (-1))else(some 0)) (λ k1=>zbg a0 a1 a2 k1 FU 0)
def m_value_compare_F (a:(List UInt8)->(List UInt8)->Option Int) (a0:List UInt8) (a1:List UInt8):Option Int:=
  if a0=a1 then(some 0)else(need ((0:Int)≤0/\0<(List.length a0:Int)) (need ((0:Int)≤0/\0<(List.length a1:Int)) (bnd1 (zma (gi a0 0) (gi a1 0)) (λ y3=>if¬y3=0 then(some y3)else(need ((0:Int)≤0/\0<(List.length a0:Int)) (if(gi a0 0)=1 then(bnd1 (zhe a0) (λ y5=>bnd1 (zhe a1) (λ y6=>bnd1 (zky y5 y6) (λ y7=>some y7))))else(need ((0:Int)≤0/\0<(List.length a0:Int)) (bnd1 (m_value_simple (UInt8.toNat (gi a0 0):Int)) (λ y9=>if y9 then(bnd1 (zfp a0 a1) (λ y10=>some y10))else(bnd1 (m_value_parts a0) (λ y11=>bnd1 (m_value_parts a1) (λ y12=>bnd1 (zbm y11 y12 a) (λ y13=>some y13)))))))))))))
def zil:Nat->((List UInt8)->(List UInt8)->Option Int)
  |0=>(λ _ _=>none)
  |n+1=>m_value_compare_F (zil n)
def znp (a0:List UInt8) (a1:List UInt8):Option Int:=zil FU a0 a1
def zhm (a0:List (List UInt8)) (k1:Unit->Option Bool) (b:Int->Option Bool) (a:Int):Option Bool:=
  if a<(List.length a0:Int)then(need ((0:Int)≤i64 (a - 1)/\(i64 (a - 1))<(List.length a0:Int)) (need ((0:Int)≤a/\a<(List.length a0:Int)) (bnd1 (znp (gi a0 (i64 (a - 1))) (gi a0 a)) (λ y20=>if 0≤y20 then(some false)else(b (i64 (a+1)))))))else(k1 ())
def zfu (a0:List (List UInt8)) (k1:Unit->Option Bool):Nat->Int->Option Bool
  |0,_=>none
  |n+1,a=>zhm a0 k1 (zfu a0 k1 n) a
def zin (a0:List (List UInt8)):Option Bool:=
  jn (λ(_:Unit)=>some true) (λ k1=>zfu a0 k1 FU 1)
def m_value_between (a0:List UInt8) (a1:Int) (a2:Int):Option Bool:=
  jn (λ(a:Bool)=>some a) (λ k1=>need ((0:Int)≤0/\0<(List.length a0:Int)) (if(gi a0 0)=1 then(bnd1 (zhe a0) (λ y6=>if a1≤y6 then(bnd1 (zhe a0) (λ y7=>k1 (decide (y7≤a2))))else(k1 false)))else(k1 false)))
def znj (a1:List (List UInt8)) (k45:(List (List UInt8))->Option Bool) (c:(List (List UInt8))->Int->Option Bool) (b:List (List UInt8)) (a:Int):Option Bool:=
  if a<(List.length a1:Int)then(need ((0:Int)≤a/\a<(List.length a1:Int)) (need (List.length b+List.length [gi a1 a]≤137438953472) (c (b++[gi a1 a]) (i64 (a+2)))))else(k45 b)
def zkr (a1:List (List UInt8)) (k45:(List (List UInt8))->Option Bool):Nat->(List (List UInt8))->Int->Option Bool
  |0,_,_=>none
  |n+1,a,b=>znj a1 k45 (zkr a1 k45 n) a b
def m_value_formed (a0:Int) (a1:List (List UInt8)):Option Bool:=
  jn (λ(_:Unit)=>some true) (λ k1=>if a0=3 then(jn (λ(a:Bool)=>some a) (λ k43=>if 2≤(List.length a1:Int)then(k43 (decide ((List.length a1:Int)≤8)))else(k43 false)))else(if a0=5 then(bnd1 (zin a1) (λ y44=>some y44))else(if a0=6 then(jn (λ(b:List (List UInt8))=>jn (λ(c:Bool)=>some c) (λ k65=>if(Int.tmod (List.length a1:Int) 2)=0 then(bnd1 (zin b) (λ y67=>k65 y67))else(k65 false))) (λ k45=>zkr a1 k45 FU [] 0))else(if a0=7 then(jn (λ(d:Bool)=>some d) (λ k68=>if 1≤(List.length a1:Int)then(if(List.length a1:Int)≤9 then(need ((0:Int)≤0/\0<(List.length a1:Int)) (need ((0:Int)≤0/\0<(List.length (gi a1 0):Int)) (k68 (decide ((gi (gi a1 0) 0)=10)))))else(k68 false))else(k68 false)))else(if a0=8 then(jn (λ(e:Bool)=>some e) (λ k73=>if 1≤(List.length a1:Int)then(if(List.length a1:Int)≤33 then(need ((0:Int)≤0/\0<(List.length a1:Int)) (bnd1 (m_value_between (gi a1 0) 0 65535) (λ y77=>k73 y77)))else(k73 false))else(k73 false)))else(if a0=9 then(jn (λ(f:Bool)=>some f) (λ k78=>if 1≤(List.length a1:Int)then(need ((0:Int)≤0/\0<(List.length a1:Int)) (bnd1 (m_value_between (gi a1 0) 1 21) (λ y82=>k78 y82)))else(k78 false)))else(k1 ())))))))
def m_value_long_B2 (d:(List UInt8)->Int->Option Int) (a0:List UInt8) (a1:Int) (k1:Int->(List (List UInt8))->Option Int) (e:Int->(List (List UInt8))->Int->Option Int) (a:Int) (b:List (List UInt8)) (c:Int):Option Int:=
  if c<(bOr .i64 (i64 ((UInt8.toNat (gi a0 1):Int)*2^min (Int.toNat 8) IntKind.i64.bits)) (UInt8.toNat (gi a0 2):Int))then(need ((0:Int)≤a/\a≤(List.length a0:Int)) (bnd1 (d (List.drop (Int.toNat a) a0) (i64 (a1+1))) (λ y33=>if y33=0 then(some 0)else(need ((0:Int)≤a/\a≤i64 (a+y33)/\(i64 (a+y33))≤(List.length a0:Int)) (need (List.length b+List.length [List.take (Int.toNat (i64 (a+y33)) - Int.toNat a) (List.drop (Int.toNat a) a0)]≤137438953472) (e (i64 (a+y33)) (b++[List.take (Int.toNat (i64 (a+y33)) - Int.toNat a) (List.drop (Int.toNat a) a0)]) (i64 (c+1))))))))else(k1 a b)
def zld (a:(List UInt8)->Int->Option Int) (a0:List UInt8) (a1:Int) (k1:Int->(List (List UInt8))->Option Int):Nat->Int->(List (List UInt8))->Int->Option Int
  |0,_,_,_=>none
  |n+1,b,c,d=>m_value_long_B2 a a0 a1 k1 (zld a a0 a1 k1 n) b c d
def m_value_long (a:(List UInt8)->Int->Option Int) (a0:List UInt8) (a1:Int):Option Int:=
  if(List.length a0:Int)<3 then(some 0)else(jn (λ(b:Int) (c:List (List UInt8))=>need ((0:Int)≤0/\0<(List.length a0:Int)) (bnd1 (m_value_formed (UInt8.toNat (gi a0 0):Int) c) (λ y38=>if !y38 then(some 0)else(some b)))) (λ k1=>need ((0:Int)≤1/\1<(List.length a0:Int)) (need ((0:Int)≤2/\2<(List.length a0:Int)) (zld a a0 a1 k1 FU 3 [] 0))))
def m_value_length_F (b:(List UInt8)->Int->Option Int) (a0:List UInt8) (a1:Int):Option Int:=
  jn (λ(c:Bool)=>if c then(some 0)else(jn (λ(a:Int)=>if(List.length a0:Int)<a then(some 0)else(some a)) (λ k4=>need ((0:Int)≤0/\0<(List.length a0:Int)) (if(gi a0 0)=1 then(k4 9)else(if(gi a0 0)=2 then(jn (λ(d:Bool)=>if d then(some 0)else(k4 2)) (λ k20=>if(List.length a0:Int)<2 then(k20 true)else(need ((0:Int)≤1/\1<(List.length a0:Int)) (k20 (decide (1<(gi a0 1)))))))else(if(gi a0 0)=10 then(k4 3)else(jn (λ(e:Bool)=>if e then(bnd1 (m_value_long b a0 a1) (λ y24=>some y24))else(k4 0)) (λ k23=>if(gi a0 0)=3 then(k23 (decide ((gi a0 0)=3)))else(if(gi a0 0)=4 then(k23 (decide ((gi a0 0)=4)))else(if(gi a0 0)=5 then(k23 (decide ((gi a0 0)=5)))else(if(gi a0 0)=6 then(k23 (decide ((gi a0 0)=6)))else(if(gi a0 0)=7 then(k23 (decide ((gi a0 0)=7)))else(if(gi a0 0)=8 then(k23 (decide ((gi a0 0)=8)))else(k23 (decide ((gi a0 0)=9)))))))))))))))) (λ k3=>if a0=([]:List UInt8)then(k3 true)else(k3 (decide (32<a1))))
def zfl:Nat->((List UInt8)->Int->Option Int)
  |0=>(λ _ _=>none)
  |n+1=>m_value_length_F (zfl n)
def m_value_length (a0:List UInt8) (a1:Int):Option Int:=zfl FU a0 a1
def zkl (a0:List UInt8):Option Bool:=
  jn (λ(a:Bool)=>some a) (λ k1=>if¬a0=([]:List UInt8)then(if(List.length a0:Int)≤131072 then(bnd1 (m_value_length a0 1) (λ y3=>k1 (decide (y3=(List.length a0:Int)))))else(k1 false))else(k1 false))
def zho (a0:List UInt8):Option Int:=
  bnd1 (zkl a0) (λ y1=>if !y1 then(some 0)else(need ((0:Int)≤0/\0<(List.length a0:Int)) (some (UInt8.toNat (gi a0 0):Int))))
def zmv (a0:List UInt8):Option (List (List UInt8)):=
  bnd1 (zho a0) (λ y1=>bnd1 (m_value_simple y1) (λ y2=>if y2 then(some [])else(bnd1 (m_value_parts a0) (λ y3=>some y3))))
def zgv (a0:List UInt8):Option Int:=
  bnd1 (zho a0) (λ y1=>if y1=1 then(bnd1 (zhe a0) (λ y2=>some y2))else(if y1=2 then(need ((0:Int)≤1/\1<(List.length a0:Int)) (some (UInt8.toNat (gi a0 1):Int)))else(if y1=10 then(need ((0:Int)≤1/\1<(List.length a0:Int)) (need ((0:Int)≤2/\2<(List.length a0:Int)) (some (bOr .i64 (i64 ((UInt8.toNat (gi a0 1):Int)*2^min (Int.toNat 8) IntKind.i64.bits)) (UInt8.toNat (gi a0 2):Int)))))else(some 0))))
def zem (a0:List UInt8):Option (Int×(List (List UInt8))):=
  bnd1 (zho a0) (λ y1=>if¬y1=9 then(some (0,[]))else(bnd1 (zmv a0) (λ y2=>need ((0:Int)≤0/\0<(List.length y2:Int)) (bnd1 (zgv (gi y2 0)) (λ y4=>need (1≤(List.length y2:Int)) (some (y4,List.drop (Int.toNat 1) y2)))))))
def zkv (a0:List UInt8) (a1:Int):Option Bool:=
  bnd1 (zgv a0) (λ y1=>jn (λ(a:Bool)=>some a) (λ k2=>bnd1 (zho a0) (λ y4=>if y4=1 then(if 0≤y1 then(k2 (decide (y1≤a1)))else(k2 false))else(k2 false))))
def zhn (a0:List UInt8):Option (Int×Bool):=
  bnd1 (zgv a0) (λ y1=>jn (λ(a:Bool)=>some (y1,a)) (λ k2=>bnd1 (zho a0) (λ y4=>if y4=1 then(if 2≤y1 then(k2 (decide (y1<1026)))else(k2 false))else(k2 false))))
def zdd (a0:List (Int×(List UInt8))):Option (List (Int×(List UInt8))):=
  some a0
def zkg (a0:List (List UInt8)) (k1:(List (Int×(List UInt8)))->Option (List (Int×(List UInt8)))) (c:(List (Int×(List UInt8)))->Int->Option (List (Int×(List UInt8)))) (b:List (Int×(List UInt8))) (a:Int):Option (List (Int×(List UInt8))):=
  if a<(List.length a0:Int)then(need ((0:Int)≤a/\a<(List.length a0:Int)) (bnd1 (zgv (gi a0 a)) (λ y29=>need ((0:Int)≤i64 (a+1)/\(i64 (a+1))<(List.length a0:Int)) (need (List.length b+List.length [(y29,gi a0 (i64 (a+1)))]≤137438953472) (c (b++[(y29,gi a0 (i64 (a+1)))]) (i64 (a+2)))))))else(k1 b)
def zhj (a0:List (List UInt8)) (k1:(List (Int×(List UInt8)))->Option (List (Int×(List UInt8)))):Nat->(List (Int×(List UInt8)))->Int->Option (List (Int×(List UInt8)))
  |0,_,_=>none
  |n+1,a,b=>zkg a0 k1 (zhj a0 k1 n) a b
def zew (a0:List (List UInt8)):Option (List (Int×(List UInt8))):=
  jn (λ(a:List (Int×(List UInt8)))=>bnd1 (zdd a) (λ y33=>some y33)) (λ k1=>zhj a0 k1 FU [] 0)
def m_cmp_isNaN_int (a0:Int):Option Bool:=
  some (decide (¬a0=a0))
def zih (a0:Int) (a1:Int):Option Int:=
  bnd1 (m_cmp_isNaN_int a0) (λ y1=>bnd1 (m_cmp_isNaN_int a1) (λ y2=>if y1 then(if y2 then(some 0)else(some (-1)))else(if y2 then(some 1)else(if a0<a1 then(some (-1))else(if a1<a0 then(some 1)else(some 0))))))
def zgx (a0:List UInt8) (a1:List UInt8):Option Int:=
  bnd1 (zkl a0) (λ y6=>bnd1 (zkl a1) (λ y7=>jn (λ(a:Bool)=>if a then(bnd1 (znp a0 a1) (λ y9=>some y9))else(if y6 then(some 1)else(if y7 then(some (-1))else(bnd1 (zfp a0 a1) (λ y10=>some y10))))) (λ k8=>if y6 then(k8 y7)else(k8 false))))
def m_cmp_Or_int_B2 (a0:List Int) (k1:Unit->Option Int) (b:Int->Option Int) (a:Int):Option Int:=
  if a<(List.length a0:Int)then(need ((0:Int)≤a/\a<(List.length a0:Int)) (if¬(gi a0 a)=0 then(some (gi a0 a))else(b (i64 (a+1)))))else(k1 ())
def m_cmp_Or_int_L2 (a0:List Int) (k1:Unit->Option Int):Nat->Int->Option Int
  |0,_=>none
  |n+1,a=>m_cmp_Or_int_B2 a0 k1 (m_cmp_Or_int_L2 a0 k1 n) a
def m_cmp_Or_int (a0:List Int):Option Int:=
  jn (λ(_:Unit)=>some 0) (λ k1=>m_cmp_Or_int_L2 a0 k1 FU 0)
def zdg (a0:Int×(List UInt8)) (a1:Int×(List UInt8)):Option Int:=
  bnd1 (zih a0.1 a1.1) (λ y1=>bnd1 (zgx a0.2 a1.2) (λ y2=>bnd1 (m_cmp_Or_int [y1,y2]) (λ y3=>some y3)))
def zkd (b:(List UInt8)->Option Bool) (a0:List (List UInt8)) (k4:Unit->Option Bool) (c:Int->Option Bool) (a:Int):Option Bool:=
  if a<(List.length a0:Int)then(need ((0:Int)≤a/\a<(List.length a0:Int)) (bnd1 (zhn (gi a0 a)) (λ y90=>jn (λ(d:Bool)=>if d then(some false)else(c (i64 (a+2)))) (λ k91=>if !y90.2 then(k91 true)else(need ((0:Int)≤i64 (a+1)/\(i64 (a+1))<(List.length a0:Int)) (bnd1 (b (gi a0 (i64 (a+1)))) (λ y95=>k91 (!y95))))))))else(k4 ())
def zhl (a:(List UInt8)->Option Bool) (a0:List (List UInt8)) (k4:Unit->Option Bool):Nat->Int->Option Bool
  |0,_=>none
  |n+1,b=>zkd a a0 k4 (zhl a a0 k4 n) b
def zkj (y96:(List (Int×(List UInt8)))) (k97:Unit->Option Bool) (b:Int->Option Bool) (a:Int):Option Bool:=
  if a<(List.length y96:Int)then(need ((0:Int)≤i64 (a - 1)/\(i64 (a - 1))<(List.length y96:Int)) (need ((0:Int)≤a/\a<(List.length y96:Int)) (bnd1 (zdg (gi y96 (i64 (a - 1))) (gi y96 a)) (λ y116=>if 0≤y116 then(some false)else(b (i64 (a+1)))))))else(k97 ())
def zft (y96:(List (Int×(List UInt8)))) (k97:Unit->Option Bool):Nat->Int->Option Bool
  |0,_=>none
  |n+1,a=>zkj y96 k97 (zft y96 k97 n) a
def m_procterm_offers (a:(List UInt8)->Option Bool) (a0:List (List UInt8)):Option Bool:=
  jn (λ(b:Bool)=>if b then(some false)else(jn (λ(_:Unit)=>bnd1 (zew a0) (λ y96=>jn (λ(_:Unit)=>some true) (λ k97=>zft y96 k97 FU 1))) (λ k4=>zhl a a0 k4 FU 0))) (λ k3=>if(List.length a0:Int)=0 then(k3 true)else(k3 (decide (¬(Int.tmod (List.length a0:Int) 2)=0))))
def ziu (a0:Int):Option (List UInt8):=
  jn (λ(a:Bool)=>if a then(some [112,112])else(jn (λ(b:Bool)=>if b then(some [112,115,112])else(if a0=17 then(some [112,115,115,112])else(if a0=20 then(some [112,114,112])else(if a0=14 then(some [112,115])else(jn (λ(c:Bool)=>if c then(some [112,114])else(if a0=19 then(some [112])else(some ([]:List UInt8)))) (λ k7=>if a0=15 then(k7 (decide (a0=15)))else(k7 (decide (a0=18))))))))) (λ k6=>if a0=12 then(k6 (decide (a0=12)))else(if a0=13 then(k6 (decide (a0=13)))else(k6 (decide (a0=16))))))) (λ k5=>if a0=7 then(k5 (decide (a0=7)))else(if a0=8 then(k5 (decide (a0=8)))else(if a0=9 then(k5 (decide (a0=9)))else(if a0=10 then(k5 (decide (a0=10)))else(k5 (decide (a0=11)))))))
def zdn (a0:List Int):Option (List Int):=
  need (0≤(List.length a0:Int)) (some (List.take (Int.toNat (List.length a0:Int)) a0))
def zkb (k2:(List Int)->Option ((List Int)×Bool)) (y17:(List (List UInt8))) (c:(List Int)->Int->Option ((List Int)×Bool)) (b:List Int) (a:Int):Option ((List Int)×Bool):=
  if a<(List.length y17:Int)then(need ((0:Int)≤a/\a<(List.length y17:Int)) (bnd1 (zhn (gi y17 a)) (λ y27=>if !y27.2 then(some ([],false))else(need (List.length b+List.length [y27.1]≤137438953472) (c (b++[y27.1]) (i64 (a+1)))))))else(k2 b)
def zhi (k2:(List Int)->Option ((List Int)×Bool)) (y17:(List (List UInt8))):Nat->(List Int)->Int->Option ((List Int)×Bool)
  |0,_,_=>none
  |n+1,a,b=>zkb k2 y17 (zhi k2 y17 n) a b
def m_procterm_events (a0:List UInt8):Option ((List Int)×Bool):=
  bnd1 (zho a0) (λ y1=>if¬y1=5 then(some ([],false))else(jn (λ(a:List Int)=>bnd1 (zdn a) (λ y30=>some (y30,true))) (λ k2=>bnd1 (zmv a0) (λ y17=>zhi k2 y17 FU [] 0))))
def zdi (a0:List (Int×Int)):Option (List (Int×Int)):=
  need (0≤(List.length a0:Int)) (some (List.take (Int.toNat (List.length a0:Int)) a0))
def zhv (k2:(List (Int×Int))->Option ((List (Int×Int))×Bool)) (y116:(List (List UInt8))) (c:(List (Int×Int))->Int->Option ((List (Int×Int))×Bool)) (b:List (Int×Int)) (a:Int):Option ((List (Int×Int))×Bool):=
  if a<(List.length y116:Int)then(need ((0:Int)≤a/\a<(List.length y116:Int)) (bnd1 (zmv (gi y116 a)) (λ y211=>jn (λ(d:Bool)=>if d then(some ([],false))else(need ((0:Int)≤0/\0<(List.length y211:Int)) (bnd1 (zhn (gi y211 0)) (λ y220=>need ((0:Int)≤1/\1<(List.length y211:Int)) (bnd1 (zhn (gi y211 1)) (λ y222=>jn (λ(e:Bool)=>if e then(some ([],false))else(need (List.length b+List.length [(y220.1,y222.1)]≤137438953472) (c (b++[(y220.1,y222.1)]) (i64 (a+1))))) (λ k225=>if !y220.2 then(k225 true)else(k225 (!y222.2))))))))) (λ k216=>bnd1 (zho (gi y116 a)) (λ y218=>if¬y218=3 then(k216 true)else(k216 (decide (¬(List.length y211:Int)=2))))))))else(k2 b)
def zga (k2:(List (Int×Int))->Option ((List (Int×Int))×Bool)) (y116:(List (List UInt8))):Nat->(List (Int×Int))->Int->Option ((List (Int×Int))×Bool)
  |0,_,_=>none
  |n+1,a,b=>zhv k2 y116 (zga k2 y116 n) a b
def zff (a0:List UInt8):Option ((List (Int×Int))×Bool):=
  bnd1 (zho a0) (λ y1=>if¬y1=5 then(some ([],false))else(jn (λ(a:List (Int×Int))=>bnd1 (zdi a) (λ y228=>some (y228,true))) (λ k2=>bnd1 (zmv a0) (λ y116=>zga k2 y116 FU [] 0))))
def m_procterm_part (a:(List UInt8)->Option Bool) (a0:UInt8) (a1:List UInt8):Option Bool:=
  jn (λ(b:Bool)=>some b) (λ k1=>if a0=112 then(bnd1 (a a1) (λ y5=>k1 y5))else(if a0=115 then(bnd1 (m_procterm_events a1) (λ y6=>k1 y6.2))else(if a0=114 then(bnd1 (zff a1) (λ y7=>k1 y7.2))else(k1 false))))
def zlb (a0:List (Int×Int)) (k1:(List (Int×Int))->Option (List (Int×Int))) (c:(List (Int×Int))->Int->Option (List (Int×Int))) (b:List (Int×Int)) (a:Int):Option (List (Int×Int)):=
  if a<(List.length a0:Int)then(need ((0:Int)≤a/\a<(List.length a0:Int)) (need (List.length b+List.length [((gi a0 a).1,(gi a0 a).2)]≤137438953472) (c (b++[((gi a0 a).1,(gi a0 a).2)]) (i64 (a+1)))))else(k1 b)
def zim (a0:List (Int×Int)) (k1:(List (Int×Int))->Option (List (Int×Int))):Nat->(List (Int×Int))->Int->Option (List (Int×Int))
  |0,_,_=>none
  |n+1,a,b=>zlb a0 k1 (zim a0 k1 n) a b
def zjz (a0:List (Int×Int)):Option (List (Int×Int)):=
  jn (λ(a:List (Int×Int))=>some a) (λ k1=>zim a0 k1 FU [] 0)
def m_alphabet_visible (a0:Int):Option Bool:=
  jn (λ(a:Bool)=>some a) (λ k1=>if 2≤a0 then(k1 (decide (a0<1026)))else(k1 false))
def zes (a0:Int×Int) (a1:Int×Int):Option Int:=
  bnd1 (zih a0.1 a1.1) (λ y1=>bnd1 (zih a0.2 a1.2) (λ y2=>bnd1 (m_cmp_Or_int [y1,y2]) (λ y3=>some y3)))
def zet (a0:List (Int×Int)):Option (List (Int×Int)):=
  need (0≤(List.length a0:Int)) (some (List.take (Int.toNat (List.length a0:Int)) a0))
def zjv (a0:List Int):Option (List Int):=
  nilc (a0=[]) (some []) (need (List.length ([]:List Int)+List.length a0≤137438953472) (some (([]:List Int)++a0)))
def zde (a0:List (Int×Int)) (a1:List (Int×Int)) (k1:Unit->Option Bool) (b:Int->Option Bool) (a:Int):Option Bool:=
  if a<(List.length a0:Int)then(need ((0:Int)≤a/\a<(List.length a0:Int)) (need ((0:Int)≤a/\a<(List.length a1:Int)) (if¬(gi a0 a)=(gi a1 a)then(some false)else(b (i64 (a+1))))))else(k1 ())
def zcq (a0:List (Int×Int)) (a1:List (Int×Int)) (k1:Unit->Option Bool):Nat->Int->Option Bool
  |0,_=>none
  |n+1,a=>zde a0 a1 k1 (zcq a0 a1 k1 n) a
def zdp (a0:List (Int×Int)) (a1:List (Int×Int)):Option Bool:=
  if¬(List.length a0:Int)=(List.length a1:Int)then(some false)else(jn (λ(_:Unit)=>some true) (λ k1=>zcq a0 a1 k1 FU 0))
def zfk (a0:List (Int×Int)):Option Bool:=
  bnd1 (m_close a0) (λ y1=>jn (λ(a:Bool)=>some a) (λ k2=>if y1.2=0 then(bnd1 (zdp a0 y1.1) (λ y4=>k2 y4))else(k2 false)))
def zmr (b:(List UInt8)->Option Bool) (y1:Int×(List (List UInt8))) (y27:(List UInt8)) (k28:Unit->Option Bool) (c:Int->Option Bool) (a:Int):Option Bool:=
  if a<(List.length y1.2:Int)then(need ((0:Int)≤a/\a<(List.length y1.2:Int)) (need ((0:Int)≤a/\a<(List.length y27:Int)) (bnd1 (m_procterm_part b (gi y27 a) (gi y1.2 a)) (λ y47=>if !y47 then(some false)else(c (i64 (a+1)))))))else(k28 ())
def zjt (a:(List UInt8)->Option Bool) (y1:Int×(List (List UInt8))) (y27:(List UInt8)) (k28:Unit->Option Bool):Nat->Int->Option Bool
  |0,_=>none
  |n+1,b=>zmr a y1 y27 k28 (zjt a y1 y27 k28 n) b
def zid (a:(List UInt8)->Option Bool) (a0:List UInt8):Option Bool:=
  bnd1 (zem a0) (λ y1=>if y1.1=0 then(some false)else(jn (λ(b:Bool)=>if b then(some (decide ((List.length y1.2:Int)=0)))else(if y1.1=5 then(jn (λ(c:Bool)=>some c) (λ k16=>if 1≤(List.length y1.2:Int)then(if(List.length y1.2:Int)≤33 then(need ((0:Int)≤0/\0<(List.length y1.2:Int)) (bnd1 (zkv (gi y1.2 0) 65535) (λ y20=>k16 y20)))else(k16 false))else(k16 false)))else(if y1.1=6 then(bnd1 (m_procterm_offers a y1.2) (λ y21=>some y21))else(if y1.1=21 then(jn (λ(d:Bool)=>some d) (λ k22=>if(List.length y1.2:Int)=1 then(need ((0:Int)≤0/\0<(List.length y1.2:Int)) (bnd1 (zkv (gi y1.2 0) 11) (λ y26=>k22 y26)))else(k22 false)))else(bnd1 (ziu y1.1) (λ y27=>if¬(List.length y1.2:Int)=(List.length y27:Int)then(some false)else(jn (λ(_:Unit)=>if¬y1.1=18 then(some true)else(need ((0:Int)≤1/\1<(List.length y1.2:Int)) (bnd1 (zff (gi y1.2 1)) (λ y49=>bnd1 (zjz y49.1) (λ y50=>bnd1 (zfk y50) (λ y51=>some y51)))))) (λ k28=>zjt a y1 y27 k28 FU 0)))))))) (λ k15=>if y1.1=1 then(k15 (decide (y1.1=1)))else(if y1.1=2 then(k15 (decide (y1.1=2)))else(if y1.1=3 then(k15 (decide (y1.1=3)))else(k15 (decide (y1.1=4))))))))
def zgm:Nat->((List UInt8)->Option Bool)
  |0=>(λ _=>none)
  |n+1=>zid (zgm n)
def zlo (a0:List UInt8):Option Bool:=zgm FU a0
def zhc (a0:List UInt8):Option (Int×(List (List UInt8))):=
  bnd1 (zlo a0) (λ y1=>if !y1 then(some (0,[]))else(bnd1 (zem a0) (λ y2=>some (y2.1,y2.2))))
def zln (a1:Int) (k1:(List UInt8)->Option (List UInt8)) (c:(List UInt8)->Int->Option (List UInt8)) (b:List UInt8) (a:Int):Option (List UInt8):=
  if 0≤a then(need (¬a<0) (need (List.length b+List.length [u8i (Int.fdiv a1 (2^min (Int.toNat a) IntKind.u64.bits))]≤137438953472) (c (b++[u8i (Int.fdiv a1 (2^min (Int.toNat a) IntKind.u64.bits))]) (i64 (a - 8)))))else(k1 b)
def zii (a1:Int) (k1:(List UInt8)->Option (List UInt8)):Nat->(List UInt8)->Int->Option (List UInt8)
  |0,_,_=>none
  |n+1,a,b=>zln a1 k1 (zii a1 k1 n) a b
def m_value_append64 (a0:List UInt8) (a1:Int):Option (List UInt8):=
  jn (λ(a:List UInt8)=>some a) (λ k1=>zii a1 k1 FU a0 56)
def m_value_Int (a0:Int):Option (List UInt8):=
  bnd1 (m_value_append64 [1] (IntKind.u64.wrap (a0))) (λ y2=>some y2)
def m_value_append16 (a0:List UInt8) (a1:Int):Option (List UInt8):=
  need (List.length a0+List.length [u8i (Int.fdiv a1 (2^min (Int.toNat 8) IntKind.u16.bits)),u8i a1]≤137438953472) (some (a0++[u8i (Int.fdiv a1 (2^min (Int.toNat 8) IntKind.u16.bits)),u8i a1]))
def zcs (a0:List (List UInt8)) (a1:(List UInt8)->Option Bool) (k1:Unit->Option Int) (b:Int->Option Int) (a:Int):Option Int:=
  if a<(List.length a0:Int)then(need ((0:Int)≤a/\a<(List.length a0:Int)) (bnd1 (a1 (gi a0 a)) (λ y14=>if y14 then(some a)else(b (i64 (a+1))))))else(k1 ())
def zcd (a0:List (List UInt8)) (a1:(List UInt8)->Option Bool) (k1:Unit->Option Int):Nat->Int->Option Int
  |0,_=>none
  |n+1,a=>zcs a0 a1 k1 (zcd a0 a1 k1 n) a
def zdz (a0:List (List UInt8)) (a1:(List UInt8)->Option Bool):Option Int:=
  jn (λ(_:Unit)=>some (-1)) (λ k1=>zcd a0 a1 k1 FU 0)
def zct (a0:List (List UInt8)) (a1:(List UInt8)->Option Bool):Option Bool:=
  bnd1 (zdz a0 a1) (λ y1=>some (decide (0≤y1)))
def zmq (a0:List UInt8):Option Bool:=
  bnd1 (zkl a0) (λ y1=>some (!y1))
def m_value_checked (a0:List UInt8):Option (List UInt8):=
  bnd1 (zkl a0) (λ y1=>if !y1 then(some ([]:List UInt8))else(some a0))
def zkw (a1:List (List UInt8)) (k4:(List UInt8)->Option (List UInt8)) (c:(List UInt8)->Int->Option (List UInt8)) (b:List UInt8) (a:Int):Option (List UInt8):=
  if a<(List.length a1:Int)then(need ((0:Int)≤a/\a<(List.length a1:Int)) (jn (λ(d:Bool)=>if d then(some ([]:List UInt8))else(need (List.length b+List.length (gi a1 a)≤137438953472) (c (b++(gi a1 a)) (i64 (a+1))))) (λ k81=>if(gi a1 a)=([]:List UInt8)then(k81 true)else(k81 (decide (131072<(i64 ((List.length b:Int)+(List.length (gi a1 a):Int)))))))))else(k4 b)
def zgh (a1:List (List UInt8)) (k4:(List UInt8)->Option (List UInt8)):Nat->(List UInt8)->Int->Option (List UInt8)
  |0,_,_=>none
  |n+1,a,b=>zkw a1 k4 (zgh a1 k4 n) a b
def zlt (a0:Int) (a1:List (List UInt8)):Option (List UInt8):=
  if 65535<(List.length a1:Int)then(some ([]:List UInt8))else(bnd1 (m_value_append16 [u8i a0] (IntKind.u16.wrap ((List.length a1:Int)))) (λ y2=>jn (λ(a:List UInt8)=>bnd1 (zct a1 zmq) (λ y84=>if !y84 then(bnd1 (m_value_checked a) (λ y85=>some y85))else(some ([]:List UInt8)))) (λ k4=>zgh a1 k4 FU y2 0)))
def m_value_Proc (a0:Int) (a1:List (List UInt8)):Option (List UInt8):=
  bnd1 (m_value_Int a0) (λ y1=>need (List.length [y1]+List.length a1≤137438953472) (bnd1 (zlt 9 ([y1]++a1)) (λ y5=>some y5)))
def zfi (a0:Int) (a1:List (List UInt8)):Option (List UInt8):=
  bnd1 (m_value_Proc a0 a1) (λ y1=>bnd1 (zlo y1) (λ y2=>if !y2 then(some ([]:List UInt8))else(some y1)))
def zjb  :Option (List UInt8):=
  bnd1 (zfi 1 ([]:List (List UInt8))) (λ y1=>some y1)
def zdo (a0:List (Int×(List UInt8))):Option (List (Int×(List UInt8))):=
  nilc (a0=[]) (some []) (need (List.length ([]:List (Int×(List UInt8)))+List.length a0≤137438953472) (some (([]:List (Int×(List UInt8)))++a0)))
def zcw (a0:List (Int×(List UInt8))) (b:Int) (k694:(List (Int×(List UInt8)))->Int->Option (List (Int×(List UInt8)))) (e:(List (Int×(List UInt8)))->Int->Int->Option (List (Int×(List UInt8)))) (c:List (Int×(List UInt8))) (d:Int) (a:Int):Option (List (Int×(List UInt8))):=
  if a<((Int.toNat (List.length a0:Int) - Int.toNat b:Nat):Int)then(jn (λ(f:List (Int×(List UInt8))) (g:Int)=>e f g (i64 (a+1))) (λ k741=>need ((0:Int)≤b/\(0:Int)≤a/\a<(List.length a0:Int) - b/\(0:Int)≤(b+a)/\(b+a)<(List.length c:Int)) (need ((0:Int)≤b/\(0:Int)≤i64 (a - 1)/\(i64 (a - 1))<(List.length a0:Int) - b/\(0:Int)≤(b+(i64 (a - 1)))/\(b+(i64 (a - 1)))<(List.length c:Int)) (if¬(gi c (b+a))=(gi c (b+(i64 (a - 1))))then(need ((0:Int)≤b/\(0:Int)≤a/\a<(List.length a0:Int) - b/\(0:Int)≤(b+a)/\(b+a)<(List.length c:Int)) (need ((0:Int)≤d/\d<(List.length c:Int)) (k741 (List.set c (Int.toNat d) (gi c (b+a))) (i64 (d+1)))))else(k741 c d)))))else(k694 c d)
def zci (a0:List (Int×(List UInt8))) (a:Int) (k694:(List (Int×(List UInt8)))->Int->Option (List (Int×(List UInt8)))):Nat->(List (Int×(List UInt8)))->Int->Int->Option (List (Int×(List UInt8)))
  |0,_,_,_=>none
  |n+1,b,c,d=>zcw a0 a k694 (zci a0 a k694 n) b c d
def zcv (a0:List (Int×(List UInt8))) (k1:Unit->Option (List (Int×(List UInt8)))) (d:Int->Option (List (Int×(List UInt8)))) (b:Int):Option (List (Int×(List UInt8))):=
  if b<(List.length a0:Int)then(jn (λ(_:Unit)=>d (i64 (b+1))) (λ k628=>need ((0:Int)≤b/\b<(List.length a0:Int)) (need ((0:Int)≤i64 (b - 1)/\(i64 (b - 1))<(List.length a0:Int)) (if(gi a0 b)=(gi a0 (i64 (b - 1)))then(need ((0:Int)≤b/\b≤(List.length a0:Int)/\(List.length a0:Int)≤(List.length a0:Int)) (jn (λ(c:List (Int×(List UInt8))) (a:Int)=>need ((0:Int)≤a/\a≤(List.length c:Int)/\(List.length c:Int)≤(List.length c:Int)) (need (0≤a/\a≤(List.length (List.take (Int.toNat a) c++List.replicate (Int.toNat (List.length c:Int) - Int.toNat a) ((0,[]):Int×(List UInt8))++List.drop (Int.toNat a+(Int.toNat (List.length c:Int) - Int.toNat a)) c):Int)) (some (List.take (Int.toNat a) (List.take (Int.toNat a) c++List.replicate (Int.toNat (List.length c:Int) - Int.toNat a) ((0,[]):Int×(List UInt8))++List.drop (Int.toNat a+(Int.toNat (List.length c:Int) - Int.toNat a)) c))))) (λ k694=>zci a0 b k694 FU a0 b 1)))else(k628 ())))))else(k1 ())
def zcj (a0:List (Int×(List UInt8))) (k1:Unit->Option (List (Int×(List UInt8)))):Nat->Int->Option (List (Int×(List UInt8)))
  |0,_=>none
  |n+1,a=>zcv a0 k1 (zcj a0 k1 n) a
def zdh (a0:List (Int×(List UInt8))):Option (List (Int×(List UInt8))):=
  if(List.length a0:Int)<2 then(some a0)else(jn (λ(_:Unit)=>some a0) (λ k1=>zcj a0 k1 FU 1))
def zkc (k5:(List (List UInt8))->Option (List UInt8)) (y23:(List (Int×(List UInt8)))) (c:(List (List UInt8))->Int->Option (List UInt8)) (b:List (List UInt8)) (a:Int):Option (List UInt8):=
  if a<(List.length y23:Int)then(need ((0:Int)≤a/\a<(List.length y23:Int)) (bnd1 (m_value_Int ((gi y23 a).1)) (λ y36=>need (List.length b+List.length [y36,(gi y23 a).2]≤137438953472) (c (b++[y36,(gi y23 a).2]) (i64 (a+1))))))else(k5 b)
def zfv (k5:(List (List UInt8))->Option (List UInt8)) (y23:(List (Int×(List UInt8)))):Nat->(List (List UInt8))->Int->Option (List UInt8)
  |0,_,_=>none
  |n+1,a,b=>zkc k5 y23 (zfv k5 y23 n) a b
def zfr (a0:List (Int×(List UInt8))):Option (List UInt8):=
  if(List.length a0:Int)=0 then(bnd1 (zjb) (λ y1=>some y1))else(bnd1 (zdo a0) (λ y2=>bnd1 (m_sortby zdg y2) (λ y4=>jn (λ(a:List (List UInt8))=>bnd1 (zfi 6 a) (λ y39=>some y39)) (λ k5=>bnd1 (zdh y4) (λ y23=>zfv k5 y23 FU [] 0)))))
def zcz (a0:List (List UInt8)):Option (List (List UInt8)):=
  nilc (a0=[]) (some []) (need (List.length ([]:List (List UInt8))+List.length a0≤137438953472) (some (([]:List (List UInt8))++a0)))
def zjk (c:(List UInt8)->(List (List UInt8))->Option (List UInt8)) (a1:List (List UInt8)) (y55:(List (Int×(List UInt8)))) (k57:(List (Int×(List UInt8)))->Option (List UInt8)) (d:(List (Int×(List UInt8)))->Int->Option (List UInt8)) (b:List (Int×(List UInt8))) (a:Int):Option (List UInt8):=
  if a<(List.length y55:Int)then(need ((0:Int)≤a/\a<(List.length b:Int)) (bnd1 (c ((gi b a).2) a1) (λ y75=>need ((0:Int)≤a/\a<(List.length b:Int)) (d (List.set b (Int.toNat a) ((gi b a).1,y75)) (i64 (a+1))))))else(k57 b)
def zgr (a:(List UInt8)->(List (List UInt8))->Option (List UInt8)) (a1:List (List UInt8)) (y55:(List (Int×(List UInt8)))) (k57:(List (Int×(List UInt8)))->Option (List UInt8)):Nat->(List (Int×(List UInt8)))->Int->Option (List UInt8)
  |0,_,_=>none
  |n+1,b,c=>zjk a a1 y55 k57 (zgr a a1 y55 k57 n) b c
def zgs (d:(List UInt8)->(List (List UInt8))->Option (List UInt8)) (a1:List (List UInt8)) (y80:(List UInt8)) (k81:(List (List UInt8))->Option (List UInt8)) (c:(List (List UInt8))->Nat->Option (List UInt8)) (b:List (List UInt8)) (a:Nat):Option (List UInt8):=
  if a<List.length y80 then(need ((0:Int)≤(a:Int)/\(a:Int)<(List.length y80:Int)) (if(gi y80 (a:Int))=112 then(need ((0:Int)≤(a:Int)/\(a:Int)<(List.length b:Int)) (bnd1 (d (gi b (a:Int)) a1) (λ y107=>need ((0:Int)≤(a:Int)/\(a:Int)<(List.length b:Int)) (c (List.set b (Int.toNat (a:Int)) y107) (sNx y80 a)))))else(c b (sNx y80 a))))else(k81 b)
def zfd (a:(List UInt8)->(List (List UInt8))->Option (List UInt8)) (a1:List (List UInt8)) (y80:(List UInt8)) (k81:(List (List UInt8))->Option (List UInt8)):Nat->(List (List UInt8))->Nat->Option (List UInt8)
  |0,_,_=>none
  |n+1,b,c=>zgs a a1 y80 k81 (zfd a a1 y80 k81 n) b c
def zkf (a:(List UInt8)->(List (List UInt8))->Option (List UInt8)) (a0:List UInt8) (a1:List (List UInt8)):Option (List UInt8):=
  bnd1 (zhc a0) (λ y1=>jn (λ(_:Unit)=>bnd1 (zcz y1.2) (λ y78=>bnd1 (ziu y1.1) (λ y80=>jn (λ(b:List (List UInt8))=>bnd1 (zfi y1.1 b) (λ y109=>some y109)) (λ k81=>zfd a a1 y80 k81 FU y78 0)))) (λ k2=>if y1.1=0 then(some ([]:List UInt8))else(if y1.1=21 then(need ((0:Int)≤0/\0<(List.length y1.2:Int)) (bnd1 (zgv (gi y1.2 0)) (λ y42=>jn (λ(c:Bool)=>if c then(some ([]:List UInt8))else(need ((0:Int)≤y42/\y42<(List.length a1:Int)) (some (gi a1 y42)))) (λ k49=>if(List.length a1:Int)≤y42 then(k49 true)else(need ((0:Int)≤y42/\y42<(List.length a1:Int)) (bnd1 (zlo (gi a1 y42)) (λ y53=>k49 (!y53))))))))else(if y1.1=6 then(bnd1 (zew y1.2) (λ y55=>jn (λ(d:List (Int×(List UInt8)))=>bnd1 (zfr d) (λ y77=>some y77)) (λ k57=>zgr a a1 y55 k57 FU y55 0)))else(k2 ())))))
def zfw:Nat->((List UInt8)->(List (List UInt8))->Option (List UInt8))
  |0=>(λ _ _=>none)
  |n+1=>zkf (zfw n)
def zez (a0:List UInt8) (a1:List (List UInt8)):Option (List UInt8):=zfw FU a0 a1
def m_procterm_Skip  :Option (List UInt8):=
  bnd1 (zfi 2 ([]:List (List UInt8))) (λ y1=>some y1)
def m_procterm_Offers (a0:List UInt8):Option (List (Int×(List UInt8))):=
  bnd1 (zhc a0) (λ y1=>if¬y1.1=6 then(some [])else(bnd1 (zew y1.2) (λ y2=>some y2)))
def m_procterm_Valid (a0:List UInt8):Option Bool:=
  bnd1 (zlo a0) (λ y1=>some y1)
def m_procterm_Op (a0:List UInt8):Option Int:=
  bnd1 (zlo a0) (λ y1=>if !y1 then(some 0)else(bnd1 (zem a0) (λ y2=>some y2.1)))
def zcy (a0:List (List UInt8)) (b:Int) (k694:(List (List UInt8))->Int->Option (List (List UInt8))) (e:(List (List UInt8))->Int->Int->Option (List (List UInt8))) (c:List (List UInt8)) (d:Int) (a:Int):Option (List (List UInt8)):=
  if a<((Int.toNat (List.length a0:Int) - Int.toNat b:Nat):Int)then(jn (λ(f:List (List UInt8)) (g:Int)=>e f g (i64 (a+1))) (λ k741=>need ((0:Int)≤b/\(0:Int)≤a/\a<(List.length a0:Int) - b/\(0:Int)≤(b+a)/\(b+a)<(List.length c:Int)) (need ((0:Int)≤b/\(0:Int)≤i64 (a - 1)/\(i64 (a - 1))<(List.length a0:Int) - b/\(0:Int)≤(b+(i64 (a - 1)))/\(b+(i64 (a - 1)))<(List.length c:Int)) (if¬(gi c (b+a))=(gi c (b+(i64 (a - 1))))then(need ((0:Int)≤b/\(0:Int)≤a/\a<(List.length a0:Int) - b/\(0:Int)≤(b+a)/\(b+a)<(List.length c:Int)) (need ((0:Int)≤d/\d<(List.length c:Int)) (k741 (List.set c (Int.toNat d) (gi c (b+a))) (i64 (d+1)))))else(k741 c d)))))else(k694 c d)
def zcg (a0:List (List UInt8)) (a:Int) (k694:(List (List UInt8))->Int->Option (List (List UInt8))):Nat->(List (List UInt8))->Int->Int->Option (List (List UInt8))
  |0,_,_,_=>none
  |n+1,b,c,d=>zcy a0 a k694 (zcg a0 a k694 n) b c d
def zcx (a0:List (List UInt8)) (k1:Unit->Option (List (List UInt8))) (d:Int->Option (List (List UInt8))) (b:Int):Option (List (List UInt8)):=
  if b<(List.length a0:Int)then(jn (λ(_:Unit)=>d (i64 (b+1))) (λ k628=>need ((0:Int)≤b/\b<(List.length a0:Int)) (need ((0:Int)≤i64 (b - 1)/\(i64 (b - 1))<(List.length a0:Int)) (if(gi a0 b)=(gi a0 (i64 (b - 1)))then(need ((0:Int)≤b/\b≤(List.length a0:Int)/\(List.length a0:Int)≤(List.length a0:Int)) (jn (λ(c:List (List UInt8)) (a:Int)=>need ((0:Int)≤a/\a≤(List.length c:Int)/\(List.length c:Int)≤(List.length c:Int)) (need (0≤a/\a≤(List.length (List.take (Int.toNat a) c++List.replicate (Int.toNat (List.length c:Int) - Int.toNat a) ([]:List UInt8)++List.drop (Int.toNat a+(Int.toNat (List.length c:Int) - Int.toNat a)) c):Int)) (some (List.take (Int.toNat a) (List.take (Int.toNat a) c++List.replicate (Int.toNat (List.length c:Int) - Int.toNat a) ([]:List UInt8)++List.drop (Int.toNat a+(Int.toNat (List.length c:Int) - Int.toNat a)) c))))) (λ k694=>zcg a0 b k694 FU a0 b 1)))else(k628 ())))))else(k1 ())
def zch (a0:List (List UInt8)) (k1:Unit->Option (List (List UInt8))):Nat->Int->Option (List (List UInt8))
  |0,_=>none
  |n+1,a=>zcx a0 k1 (zch a0 k1 n) a
def zdj (a0:List (List UInt8)):Option (List (List UInt8)):=
  if(List.length a0:Int)<2 then(some a0)else(jn (λ(_:Unit)=>some a0) (λ k1=>zch a0 k1 FU 1))
def m_value_Sort (a0:List (List UInt8)):Option (List (List UInt8)):=
  bnd1 (zcz a0) (λ y1=>bnd1 (m_sortby zgx y1) (λ y3=>bnd1 (zdj y3) (λ y4=>bnd1 (zbp y4) (λ y5=>some y5))))
def m_value_Set (a0:List (List UInt8)):Option (List UInt8):=
  bnd1 (m_value_Sort a0) (λ y1=>bnd1 (zlt 5 y1) (λ y2=>some y2))
def zno (a0:List Int) (k1:(List (List UInt8))->Option (List UInt8)) (c:(List (List UInt8))->Int->Option (List UInt8)) (b:List (List UInt8)) (a:Int):Option (List UInt8):=
  if a<(List.length a0:Int)then(need ((0:Int)≤a/\a<(List.length a0:Int)) (bnd1 (m_value_Int (gi a0 a)) (λ y24=>need (List.length b+List.length [y24]≤137438953472) (c (b++[y24]) (i64 (a+1))))))else(k1 b)
def zks (a0:List Int) (k1:(List (List UInt8))->Option (List UInt8)):Nat->(List (List UInt8))->Int->Option (List UInt8)
  |0,_,_=>none
  |n+1,a,b=>zno a0 k1 (zks a0 k1 n) a b
def m_procterm_set (a0:List Int):Option (List UInt8):=
  jn (λ(a:List (List UInt8))=>bnd1 (m_value_Set a) (λ y27=>some y27)) (λ k1=>zks a0 k1 FU [] 0)
def znm (a0:List UInt8) (a1:List Int):Option (List UInt8):=
  bnd1 (m_procterm_set a1) (λ y1=>bnd1 (zfi 14 [a0,y1]) (λ y2=>some y2))
def m_law16_awake  :Option Bool:=
  bnd1 (zjb) (λ y1=>bnd1 (m_procterm_Skip) (λ y2=>bnd1 (zfr [(3,y1),(2,y2)]) (λ y3=>bnd1 (m_procterm_Offers y3) (λ y4=>jn (λ(a:Bool)=>some a) (λ k5=>bnd1 (m_procterm_Valid y3) (λ y13=>if y13 then(bnd1 (m_procterm_Op y3) (λ y14=>if y14=6 then(if(List.length y4:Int)=2 then(need ((0:Int)≤0/\0<(List.length y4:Int)) (if((gi y4 0).1)=2 then(need ((0:Int)≤0/\0<(List.length y4:Int)) (bnd1 (zbs 2 ([]:List (List UInt8))) (λ y17=>if((gi y4 0).2)=y17 then(bnd1 (zjb) (λ y18=>bnd1 (znm y18 [0]) (λ y19=>k5 (decide (y19=([]:List UInt8))))))else(k5 false))))else(k5 false)))else(k5 false))else(k5 false)))else(k5 false)))))))
def zmh (c:(List UInt8)->(List (List UInt8))->Option (List UInt8)) (a1:List (List UInt8)) (k19:(List (List UInt8))->Option (List UInt8)) (d:(List (List UInt8))->Int->Option (List UInt8)) (b:List (List UInt8)) (a:Int):Option (List UInt8):=
  if a<(List.length b:Int)then(need ((0:Int)≤a/\a<(List.length b:Int)) (bnd1 (c (gi b a) a1) (λ y42=>need ((0:Int)≤a/\a<(List.length b:Int)) (need ((0:Int)≤a/\a<(List.length (List.set b (Int.toNat a) y42):Int)) (if(gi (List.set b (Int.toNat a) y42) a)=([]:List UInt8)then(some ([]:List UInt8))else(d (List.set b (Int.toNat a) y42) (i64 (a+1))))))))else(k19 b)
def zjw (a:(List UInt8)->(List (List UInt8))->Option (List UInt8)) (a1:List (List UInt8)) (k19:(List (List UInt8))->Option (List UInt8)):Nat->(List (List UInt8))->Int->Option (List UInt8)
  |0,_,_=>none
  |n+1,b,c=>zmh a a1 k19 (zjw a a1 k19 n) b c
def m_ref16_Replace_F (a:(List UInt8)->(List (List UInt8))->Option (List UInt8)) (a0:List UInt8) (a1:List (List UInt8)):Option (List UInt8):=
  bnd1 (m_ref16_Op a0) (λ y1=>if y1=0 then(some ([]:List UInt8))else(if y1=21 then(bnd1 (zgq a0) (λ y2=>need ((0:Int)≤1/\1<(List.length y2:Int)) (bnd1 (zfq (gi y2 1)) (λ y4=>jn (λ(b:Bool)=>if b then(some ([]:List UInt8))else(need ((0:Int)≤y4/\y4<(List.length a1:Int)) (some (gi a1 y4)))) (λ k11=>if(List.length a1:Int)≤y4 then(k11 true)else(need ((0:Int)≤y4/\y4<(List.length a1:Int)) (bnd1 (zmo (gi a1 y4)) (λ y15=>k11 (!y15)))))))))else(bnd1 (zlu a0) (λ y17=>if(List.length y17:Int)=0 then(some a0)else(jn (λ(c:List (List UInt8))=>bnd1 (m_ref16_With a0 c) (λ y45=>some y45)) (λ k19=>zjw a a1 k19 FU y17 0))))))
def zig:Nat->((List UInt8)->(List (List UInt8))->Option (List UInt8))
  |0=>(λ _ _=>none)
  |n+1=>m_ref16_Replace_F (zig n)
def m_ref16_Replace (a0:List UInt8) (a1:List (List UInt8)):Option (List UInt8):=zig FU a0 a1
def zjo (a1:List (List UInt8)) (a2:UInt8) (y1:(List UInt8)) (k2:(List (List UInt8))->Option (List (List UInt8))) (c:(List (List UInt8))->Nat->Option (List (List UInt8))) (b:List (List UInt8)) (a:Nat):Option (List (List UInt8)):=
  if a<List.length y1 then(need ((0:Int)≤(a:Int)/\(a:Int)<(List.length y1:Int)) (if(gi y1 (a:Int))=a2 then(need ((0:Int)≤(a:Int)/\(a:Int)<(List.length a1:Int)) (need (List.length b+List.length [gi a1 (a:Int)]≤137438953472) (c (b++[gi a1 (a:Int)]) (sNx y1 a))))else(c b (sNx y1 a))))else(k2 b)
def zhg (a1:List (List UInt8)) (a2:UInt8) (y1:(List UInt8)) (k2:(List (List UInt8))->Option (List (List UInt8))):Nat->(List (List UInt8))->Nat->Option (List (List UInt8))
  |0,_,_=>none
  |n+1,a,b=>zjo a1 a2 y1 k2 (zhg a1 a2 y1 k2 n) a b
def zle (a0:Int) (a1:List (List UInt8)) (a2:UInt8):Option (List (List UInt8)):=
  bnd1 (ziu a0) (λ y1=>jn (λ(a:List (List UInt8))=>bnd1 (zbp a) (λ y30=>some y30)) (λ k2=>zhg a1 a2 y1 k2 FU [] 0))
def zhw (k3:(List (List UInt8))->Option (List (List UInt8))) (y18:(List (Int×(List UInt8)))) (c:(List (List UInt8))->Int->Option (List (List UInt8))) (b:List (List UInt8)) (a:Int):Option (List (List UInt8)):=
  if a<(List.length y18:Int)then(need ((0:Int)≤a/\a<(List.length y18:Int)) (need (List.length b+List.length [(gi y18 a).2]≤137438953472) (c (b++[(gi y18 a).2]) (i64 (a+1)))))else(k3 b)
def zgc (k3:(List (List UInt8))->Option (List (List UInt8))) (y18:(List (Int×(List UInt8)))):Nat->(List (List UInt8))->Int->Option (List (List UInt8))
  |0,_,_=>none
  |n+1,a,b=>zhw k3 y18 (zgc k3 y18 n) a b
def zla (a0:List UInt8):Option (List (List UInt8)):=
  bnd1 (zhc a0) (λ y1=>if¬y1.1=6 then(bnd1 (zle y1.1 y1.2 112) (λ y2=>some y2))else(jn (λ(a:List (List UInt8))=>bnd1 (zbp a) (λ y31=>some y31)) (λ k3=>bnd1 (zew y1.2) (λ y18=>zgc k3 y18 FU [] 0))))
def zis (a0:List Int) (b:Int) (k694:(List Int)->Int->Option (List Int)) (e:(List Int)->Int->Int->Option (List Int)) (c:List Int) (d:Int) (a:Int):Option (List Int):=
  if a<((Int.toNat (List.length a0:Int) - Int.toNat b:Nat):Int)then(jn (λ(f:List Int) (g:Int)=>e f g (i64 (a+1))) (λ k741=>need ((0:Int)≤b/\(0:Int)≤a/\a<(List.length a0:Int) - b/\(0:Int)≤(b+a)/\(b+a)<(List.length c:Int)) (need ((0:Int)≤b/\(0:Int)≤i64 (a - 1)/\(i64 (a - 1))<(List.length a0:Int) - b/\(0:Int)≤(b+(i64 (a - 1)))/\(b+(i64 (a - 1)))<(List.length c:Int)) (if¬(gi c (b+a))=(gi c (b+(i64 (a - 1))))then(need ((0:Int)≤b/\(0:Int)≤a/\a<(List.length a0:Int) - b/\(0:Int)≤(b+a)/\(b+a)<(List.length c:Int)) (need ((0:Int)≤d/\d<(List.length c:Int)) (k741 (List.set c (Int.toNat d) (gi c (b+a))) (i64 (d+1)))))else(k741 c d)))))else(k694 c d)
def ziz (a0:List Int) (a:Int) (k694:(List Int)->Int->Option (List Int)):Nat->(List Int)->Int->Int->Option (List Int)
  |0,_,_,_=>none
  |n+1,b,c,d=>zis a0 a k694 (ziz a0 a k694 n) b c d
def zjj (a0:List Int) (k1:Unit->Option (List Int)) (d:Int->Option (List Int)) (b:Int):Option (List Int):=
  if b<(List.length a0:Int)then(jn (λ(_:Unit)=>d (i64 (b+1))) (λ k628=>need ((0:Int)≤b/\b<(List.length a0:Int)) (need ((0:Int)≤i64 (b - 1)/\(i64 (b - 1))<(List.length a0:Int)) (if(gi a0 b)=(gi a0 (i64 (b - 1)))then(need ((0:Int)≤b/\b≤(List.length a0:Int)/\(List.length a0:Int)≤(List.length a0:Int)) (jn (λ(c:List Int) (a:Int)=>need ((0:Int)≤a/\a≤(List.length c:Int)/\(List.length c:Int)≤(List.length c:Int)) (need (0≤a/\a≤(List.length (List.take (Int.toNat a) c++List.replicate (Int.toNat (List.length c:Int) - Int.toNat a) (0:Int)++List.drop (Int.toNat a+(Int.toNat (List.length c:Int) - Int.toNat a)) c):Int)) (some (List.take (Int.toNat a) (List.take (Int.toNat a) c++List.replicate (Int.toNat (List.length c:Int) - Int.toNat a) (0:Int)++List.drop (Int.toNat a+(Int.toNat (List.length c:Int) - Int.toNat a)) c))))) (λ k694=>ziz a0 b k694 FU a0 b 1)))else(k628 ())))))else(k1 ())
def zjn (a0:List Int) (k1:Unit->Option (List Int)):Nat->Int->Option (List Int)
  |0,_=>none
  |n+1,a=>zjj a0 k1 (zjn a0 k1 n) a
def zea (a0:List Int):Option (List Int):=
  if(List.length a0:Int)<2 then(some a0)else(jn (λ(_:Unit)=>some a0) (λ k1=>zjn a0 k1 FU 1))
def zij (c:(List UInt8)->Option (List Int)) (k4:(List Int)->Option (List Int)) (y19:(List (List UInt8))) (d:(List Int)->Int->Option (List Int)) (b:List Int) (a:Int):Option (List Int):=
  if a<(List.length y19:Int)then(need ((0:Int)≤a/\a<(List.length y19:Int)) (bnd1 (c (gi y19 a)) (λ y29=>need (List.length b+List.length y29≤137438953472) (d (b++y29) (i64 (a+1))))))else(k4 b)
def zgi (a:(List UInt8)->Option (List Int)) (k4:(List Int)->Option (List Int)) (y19:(List (List UInt8))):Nat->(List Int)->Int->Option (List Int)
  |0,_,_=>none
  |n+1,b,c=>zij a k4 y19 (zgi a k4 y19 n) b c
def zlz (a:(List UInt8)->Option (List Int)) (a0:List UInt8):Option (List Int):=
  bnd1 (zhc a0) (λ y1=>if y1.1=21 then(need ((0:Int)≤0/\0<(List.length y1.2:Int)) (bnd1 (zgv (gi y1.2 0)) (λ y3=>some [y3])))else(jn (λ(b:List Int)=>bnd1 (m_sortI b) (λ y32=>bnd1 (zea y32) (λ y33=>bnd1 (zdn y33) (λ y34=>some y34)))) (λ k4=>bnd1 (zla a0) (λ y19=>zgi a k4 y19 FU [] 0))))
def zfa:Nat->((List UInt8)->Option (List Int))
  |0=>(λ _=>none)
  |n+1=>zlz (zfa n)
def m_procterm_Holes (a0:List UInt8):Option (List Int):=zfa FU a0
def zjp (a0:List UInt8) (a1:List (List UInt8)) (a2:List Int):Option Bool:=
  bnd1 (m_gen_New a2) (λ y1=>bnd1 (m_law16_holed (y1.1,y1.2) 3) (λ y3=>bnd1 (zfx (y3.2.1,y3.2.2) 2 1) (λ y4=>bnd1 (zfx (y4.2.1,y4.2.2) 2 1) (λ y5=>bnd1 (zfx (y5.2.1,y5.2.2) 1 1) (λ y6=>bnd1 (zfx (y6.2.1,y6.2.2) 2 1) (λ y7=>bnd1 (zck (y7.2.1,y7.2.2) 5) (λ y8=>bnd1 (zic 3) (λ y9=>bnd1 (zbs 21 [y9]) (λ y10=>bnd1 (zic 2) (λ y11=>bnd1 (zbs 21 [y11]) (λ y12=>bnd1 (zic 1) (λ y13=>bnd1 (zbs 21 [y13]) (λ y14=>bnd1 (zic 0) (λ y15=>bnd1 (zbs 21 [y15]) (λ y16=>bnd1 (zez y3.1 [y4.1,y5.1,y6.1,y7.1]) (λ y17=>bnd1 (zez y3.1 [y10,y12,y14,y16]) (λ y18=>need ((0:Int)≤3/\3<(List.length [y4.1,y5.1,y6.1,y7.1]:Int)) (need ((0:Int)≤2/\2<(List.length [y4.1,y5.1,y6.1,y7.1]:Int)) (need ((0:Int)≤1/\1<(List.length [y4.1,y5.1,y6.1,y7.1]:Int)) (need ((0:Int)≤0/\0<(List.length [y4.1,y5.1,y6.1,y7.1]:Int)) (bnd1 (zez y18 ([gi [y4.1,y5.1,y6.1,y7.1] 3,gi [y4.1,y5.1,y6.1,y7.1] 2,gi [y4.1,y5.1,y6.1,y7.1] 1,gi [y4.1,y5.1,y6.1,y7.1] 0])) (λ y23=>jn (λ(a:Bool)=>some a) (λ k24=>bnd1 (m_law16_awake) (λ y37=>if y37 then(bnd1 (zez a0 a1) (λ y38=>bnd1 (m_ref16_Replace a0 a1) (λ y39=>if y38=y39 then(bnd1 (zez y3.1 a1) (λ y40=>bnd1 (m_ref16_Replace y3.1 a1) (λ y41=>if y40=y41 then(need (0≤Int.tmod y8.1 4/\(Int.tmod y8.1 4)≤(List.length [y4.1,y5.1,y6.1,y7.1]:Int)) (bnd1 (zez y3.1 (List.take (Int.toNat (Int.tmod y8.1 4)) [y4.1,y5.1,y6.1,y7.1])) (λ y43=>need (0≤Int.tmod y8.1 4/\(Int.tmod y8.1 4)≤(List.length [y4.1,y5.1,y6.1,y7.1]:Int)) (bnd1 (m_ref16_Replace y3.1 (List.take (Int.toNat (Int.tmod y8.1 4)) [y4.1,y5.1,y6.1,y7.1])) (λ y45=>if y43=y45 then(bnd1 (m_ref16_Replace y3.1 [y4.1,y5.1,y6.1,y7.1]) (λ y46=>if y17=y46 then(if y23=y17 then(bnd1 (m_procterm_Holes y17) (λ y47=>if(List.length y47:Int)=0 then(bnd1 (zez y17 ([]:List (List UInt8))) (λ y48=>k24 (decide (y48=y17))))else(k24 false)))else(k24 false))else(k24 false)))else(k24 false))))))else(k24 false))))else(k24 false))))else(k24 false)))))))))))))))))))))))))
end
noncomputable section
theorem zbq {κ ρ:Type} (k:κ) (m:κ->ρ):jn k m=m k:=by
 have h:jn k m=m k:=rfl
 exact h
theorem zaf {α ρ:Type} (a:α) (k:α->Option ρ):bnd1 (some a) k=k a:=by
 have h:bnd1 (some a) k=k a:=rfl
 exact h
theorem zeo:18446744073709551616≤FU:=Nat.le_refl _
theorem i64_def (x:Int):i64 x=IntKind.i64.wrap x:=rfl
theorem wrap_i64 (x:Int) (h: -9223372036854775808≤x/\x≤9223372036854775807):IntKind.i64.wrap x=x:=zfn h
theorem wrap_i64_range (x:Int): -9223372036854775808≤IntKind.i64.wrap x/\IntKind.i64.wrap x≤9223372036854775807:=by
 unfold IntKind.wrap IntKind.bits IntKind.signed
 simp;split <;>omega
theorem u8i_nat (n:Nat):(u8i (n:Int)).toNat=n % 256:=by
 have:=u8i_eq (n:Int)
 rw[wrap_u8n]at this
 omega
theorem u8_inj {a b:UInt8} (h:a.toNat=b.toNat):a=b:=UInt8.toNat_inj.1 h
theorem u8i_toNat (a:UInt8):u8i (a.toNat:Int)=a:=u8_inj (by rw[u8i_nat];have:=UInt8.toNat_lt a;omega)
theorem bv_nat (w:Nat) (m:Nat) (h:m<2^w):(BitVec.ofInt w (m:Int)).toNat=m:=by
 rw[BitVec.toNat_ofInt]
 have h1:((m:Int) % (2^w:Nat))=(m:Int):=Int.emod_eq_of_lt (by omega) (by exact_mod_cast h)
 rw[h1];rfl
theorem bOr_nat (m k:Nat) (hm:m<2^63) (hk:k<2^63):bOr .i64 (m:Int) (k:Int)=((m |||k:Nat):Int):=by
 unfold bOr
 rw[BitVec.toNat_or,show IntKind.i64.bits=64 from rfl,bv_nat 64 m (by omega),bv_nat 64 k (by omega),wrap_i64]
 have:=Nat.or_lt_two_pow hm hk
 omega
theorem tmod_nat (m k:Nat):Int.tmod (m:Int) (k:Int)=((m % k:Nat):Int):=rfl
end
noncomputable section
attribute [local irreducible] FU
def foldK {σ α ρ:Type} (f:σ->α->(σ->Option ρ)->Option ρ) (K:σ->Option ρ):List α->σ->Option ρ
 |[],s=>K s
 |x::xs,s=>f s x (λ s'=>foldK f K xs s')
theorem zbl {i:Nat} (h:i<9223372036854775807):i64 ((i:Int)+1)=((i+1:Nat):Int):=by rw[zfn (by omega)];omega
theorem i64_sub1 {i:Nat} (h:i<4611686018427387904):i64 ((i:Int) - 1)=(i:Int) - 1:=zfn (by omega)
theorem loop_fold {σ α ρ:Type} (l:List α) (L:Nat->σ->Int->Option ρ) (f:σ->α->(σ->Option ρ)->Option ρ) (K:σ->Option ρ)
  (hs: ∀n s (i:Nat) (h:i<l.length),L (n+1) s (i:Int)=f s l[i] (λ s'=>L n s' ((i+1:Nat):Int))) (he: ∀n s,L (n+1) s (l.length:Int)=K s):
  ∀(m i n:Nat) (s:σ),i+m=l.length->m<n->L n s (i:Int)=foldK f K (l.drop i) s:=by
 intro m
 induction m with
 |zero=>
  intro i n s hi h
  obtain⟨n,rfl⟩: ∃k,n=k+1:=⟨n - 1,by omega⟩
  obtain rfl:i=l.length:=by omega
  rw[he,List.drop_length];rfl
 |succ m ih=>
  intro i n s hi h
  obtain⟨n,rfl⟩: ∃k,n=k+1:=⟨n - 1,by omega⟩
  rw[hs n s i (by omega),List.drop_eq_getElem_cons (show i<l.length by omega),foldK]
  congr 1
  funext s'
  exact ih (i+1) n s' (by omega) (by omega)
theorem loop_all {σ α ρ:Type} (l:List α) (hl:l.length<4611686018427387904) (L:Nat->σ->Int->Option ρ) (f:σ->α->(σ->Option ρ)->Option ρ) (K:σ->Option ρ)
  (hs: ∀n s (i:Nat) (h:i<l.length),L (n+1) s (i:Int)=f s l[i] (λ s'=>L n s' ((i+1:Nat):Int))) (he: ∀n s,L (n+1) s (l.length:Int)=K s) (s:σ):
  L FU s 0=foldK f K l s:=by
 have:=zeo
 exact loop_fold l L f K hs he l.length 0 FU s (by omega) (by omega)
theorem foldK_any {σ α ρ:Type} (p:α->Bool) (R:Option ρ) (K:σ->Option ρ) (s:σ): ∀l:List α,foldK (λ s x k=>if p x then R else k s) K l s=if l.any p then R else K s
 |[]=>rfl
 |x::xs=>by
  rw[foldK]
  cases hp:p x with
  |true=>simp[hp]
  |false=>simp only[Bool.false_eq_true,if_false,List.any_cons,hp,Bool.false_or];exact foldK_any p R K s xs
theorem foldK_app {α β ρ:Type} (p:α->Bool) (g:α->β) (K:List β->Option ρ): ∀(l:List α) (r:List β),r.length+l.length≤137438953472->
  foldK (λ r x k=>if p x then need (List.length r+1≤137438953472) (k (r++[g x]))else k r) K l r=K (r++(l.filter p).map g)
 |[],r,_=>by simp[foldK]
 |x::xs,r,h=>by
  simp only[List.length_cons]at h
  rw[foldK]
  cases hp:p x with
  |true=>simp only[if_true];rw[zah (by omega),foldK_app p g K xs _ (by simp;omega)];simp[hp]
  |false=>simp only[Bool.false_eq_true,if_false];rw[foldK_app p g K xs r (by omega)];simp[hp]
section
variable {α:Type} [DecidableEq α]
def cstep (r:List α) (x:α):List α:=if r.getLast?=some x then r else r++[x]
def compactL (l:List α):List α:=l.foldl cstep []
theorem zmi (l:List α) (x:α):compactL (l++[x])=cstep (compactL l) x:=by simp[compactL]
theorem compactL_last (l:List α):(compactL l).getLast?=l.getLast?:=by
 rcases List.eq_nil_or_concat l with rfl|⟨t,x,rfl⟩
 .rfl
 .rw[List.concat_eq_append,zmi,cstep]
  split
  .rename_i h;rw[h];simp
  .simp
theorem compactL_mem (l:List α) (x:α):x∈compactL l↔x∈l:=by
 have key: ∀n (l:List α),l.length=n->(x∈compactL l↔x∈l):=by
  intro n
  induction n with
  |zero=>intro l h;have:=List.length_eq_zero_iff.1 h;subst this;simp[compactL]
  |succ n ih=>
   intro l h
   rcases List.eq_nil_or_concat l with rfl|⟨t,y,rfl⟩
   .simp[compactL]
   .rw[List.concat_eq_append]at h⊢
    simp at h
    rw[zmi,cstep]
    split
    .rename_i he
     rw[ih t h]
     rw[compactL_last]at he
     have:y∈t:=List.mem_of_getLast? he
     constructor
     .intro hx;simp[hx]
     .intro hx
      rcases List.mem_append.1 hx with h1|h1
      .exact h1
      .rw[List.mem_singleton.1 h1];exact this
    .simp[ih t h]
 exact key l.length l rfl
theorem compactL_len (l:List α):(compactL l).length≤l.length:=by
 have key: ∀n (l:List α),l.length=n->(compactL l).length≤l.length:=by
  intro n
  induction n with
  |zero=>intro l h;have:=List.length_eq_zero_iff.1 h;subst this;simp[compactL]
  |succ n ih=>
   intro l h
   rcases List.eq_nil_or_concat l with rfl|⟨t,y,rfl⟩
   .simp[compactL]
   .rw[List.concat_eq_append]at h⊢
    simp at h
    have:=ih t h
    rw[zmi,cstep]
    split <;>simp <;>omega
 exact key l.length l rfl
theorem compactL_sorted {lt:α->α->Prop} (hirr: ∀a, ¬lt a a) (ht: ∀{a b c},lt a b->lt b c->lt a c) (l:List α) (h:l.Pairwise (λ a b=>a=b∨lt a b)):(compactL l).Pairwise lt:=by
 have key: ∀n (l:List α),l.length=n->l.Pairwise (λ a b=>a=b∨lt a b)->(compactL l).Pairwise lt:=by
  intro n
  induction n with
  |zero=>intro l h;have:=List.length_eq_zero_iff.1 h;subst this;simp[compactL]
  |succ n ih=>
   intro l h hp
   rcases List.eq_nil_or_concat l with rfl|⟨t,y,rfl⟩
   .simp[compactL]
   .rw[List.concat_eq_append]at h hp⊢
    simp at h
    obtain⟨p1,_,p3⟩:=List.pairwise_append.1 hp
    have hc:=ih t h p1
    rw[zmi,cstep]
    split
    .exact hc
    .rename_i hne
     rw[List.pairwise_append]
     refine⟨hc,by simp,λ a ha b hb=> ?_⟩
     obtain rfl:=List.mem_singleton.1 hb
     have ha':=(compactL_mem t a).1 ha
     rcases p3 a ha' b (by simp)with h1|h1
     .subst h1
      exfalso
      rcases List.eq_nil_or_concat t with rfl|⟨u,z,rfl⟩
      .cases ha'
      .rw[List.concat_eq_append]at*
       have hz:(compactL (u++[z])).getLast?=some z:=by rw[compactL_last];simp
       have hza:z≠a:=λ e=>hne (by rw[hz,e])
       have hlast: ∃v,compactL (u++[z])=v++[z]:=by
        rcases List.eq_nil_or_concat (compactL (u++[z]))with e|⟨v,q,e⟩
        .rw[e]at hz;cases hz
        .rw[List.concat_eq_append]at e;rw[e]at hz;simp at hz;exact⟨v,by rw[e,hz]⟩
       obtain⟨v,hv⟩:=hlast
       rw[hv]at ha hc
       rcases List.mem_append.1 ha with h2|h2
       .have h3:=(List.pairwise_append.1 hc).2.2 a h2 z (by simp)
        rcases p3 z (by simp) a (by simp)with h4|h4
        .exact hza h4
        .have:lt a a:=ht h3 h4
         exact hirr _ this
       .exact hza (List.mem_singleton.1 h2).symm
     .exact h1
 exact key l.length l rfl h
end
theorem SL_ext {α:Type} {lt:α->α->Prop} (hirr: ∀a, ¬lt a a) (ht: ∀{a b c},lt a b->lt b c->lt a c): ∀{a b:List α},a.Pairwise lt->b.Pairwise lt->(∀x,x∈a↔x∈b)->a=b
 |[],[],_,_,_=>rfl
 |[],y::b,_,_,h=>by have:=(h y).2 (by simp);cases this
 |x::a,[],_,_,h=>by have:=(h x).1 (by simp);cases this
 |x::a,y::b,h1,h2,h=>by
  obtain⟨p1,p2⟩:=List.pairwise_cons.1 h1
  obtain⟨q1,q2⟩:=List.pairwise_cons.1 h2
  have hxy:x=y:=by
   rcases List.mem_cons.1 ((h x).1 (by simp))with e|e
   .exact e
   .rcases List.mem_cons.1 ((h y).2 (by simp))with e'|e'
    .exact e'.symm
    .exact absurd (ht (q1 x e) (p1 y e')) (hirr _)
  subst hxy
  congr 1
  refine SL_ext hirr ht p2 q2 λ z=>⟨λ hz=> ?_,λ hz=> ?_⟩
  .rcases List.mem_cons.1 ((h z).1 (by simp[hz]))with e|e
   .subst e;exact absurd (p1 z hz) (hirr _)
   .exact e
  .rcases List.mem_cons.1 ((h z).2 (by simp[hz]))with e|e
   .subst e;exact absurd (q1 z hz) (hirr _)
   .exact e
end
noncomputable section
attribute [local irreducible] FU
theorem cCmpZ (a b:Int):zih a b=some (if a<b then -1 else if b<a then 1 else 0):=by
 unfold zih m_cmp_isNaN_int
 simp only[zaf]
 by_cases h1:a<b <;>by_cases h2:b<a <;>simp[h1,h2,zbq,need,zaf]
theorem or2Z (a b:Int):m_cmp_Or_int [a,b]=some (if a=0 then b else a):=by
 obtain⟨n,hn⟩: ∃n,FU=n+3:=⟨FU - 3,by have:=zeo;omega⟩
 unfold m_cmp_Or_int
 rw[hn]
 have w1:i64 (0+1)=1:=rfl
 have w2:i64 (1+1)=2:=rfl
 have g0:gi [a,b] 0=a:=rfl
 have g1:gi [a,b] 1=b:=rfl
 simp only[zbq,m_cmp_Or_int_L2,m_cmp_Or_int_B2,List.length_cons,List.length_nil,w1,w2,g0,g1]
 by_cases h1:a=0 <;>by_cases h2:b=0 <;>simp[h1,h2,need]
theorem cmpAbove:zes=pcmp:=by
 funext x y
 unfold zes pcmp
 simp only[cCmpZ,zaf,or2Z]
 congr 1
 by_cases h1:x.1<y.1 <;>by_cases h2:y.1<x.1 <;>by_cases h3:x.2<y.2 <;>by_cases h4:y.2<x.2 <;>simp[h1,h2,h3,h4]
theorem visZ (x:Int):m_alphabet_visible x=some (decide (cVis x)):=by
 unfold m_alphabet_visible cVis
 simp only[zbq]
 by_cases h1:2≤x <;>by_cases h2:x<1026 <;>simp[h1,h2]
theorem clipZ (xs:List (Int×Int)):zet xs=some xs:=by
 unfold zet
 rw[zah (by omega)];simp
def keyF (p:Int->Bool):List Int:=cKeys.filter p
theorem keyF_mem {p:Int->Bool} {x:Int}:x∈keyF p↔cVis x/\p x=true:=by
 unfold keyF;rw[List.mem_filter,cKeys_mem]
theorem cKeys_asc:cKeys.Pairwise (λ a b=>a<b):=by
 unfold cKeys
 rw[List.pairwise_map]
 exact List.pairwise_lt_range.imp (λ {a b} h=>by show(a:Int)+2<(b:Int)+2;omega)
theorem keyF_asc (p:Int->Bool):(keyF p).Pairwise (λ a b=>a<b):=cKeys_asc.filter _
theorem keyF_len (p:Int->Bool):(keyF p).length≤1024:=by
 have:=List.length_filter_le p cKeys
 have h2:cKeys.length=1024:=by unfold cKeys;simp
 unfold keyF;omega
theorem asc_keyF {l:List Int} {p:Int->Bool} (h:l.Pairwise (λ a b=>a<b)) (hm: ∀x,x∈l↔cVis x/\p x=true):l=keyF p:=
 SL_ext (lt:=λ a b:Int=>a<b) (λ a h=>by omega) (λ h1 h2=>by omega) h (keyF_asc p) (λ x=>by rw[hm,keyF_mem])
def setZ (a:List Int):List Int:=keyF (λ x=>decide (x∈a))
theorem setZ_mem {a:List Int} {x:Int}:x∈setZ a↔cVis x/\x∈a:=by unfold setZ;rw[keyF_mem,decide_eq_true_iff]
theorem iClip (l:List Int):zdn l=some l:=by
 unfold zdn
 rw[zah (by omega),Int.toNat_natCast,List.take_length]
theorem sortI_len (l:List Int):(sortI l).length=l.length:=List.length_mergeSort _
end
noncomputable section
attribute [local irreducible] FU cKeys keyF
theorem rvisZ (x:Int):zds x=some (decide (cVis x)):=visZ x
def RunZ (a:List Int) (i:Nat):Prop:= ∀j,i≤j-> ∀h:j<a.length,cVis a[j]/\(0<j->a[j - 1]<a[j])
theorem rValid_loop (a:List Int) (ha:a.length≤1000000000): ∀(m i n:Nat),i+m=a.length->m<n-> ∃b,zif a (λ _=>some true) n i=some b/\(b=true↔RunZ a i):=by
 intro m
 induction m with
 |zero=>
  intro i n hi hn
  obtain⟨n,rfl⟩: ∃q,n=q+1:=⟨n - 1,by omega⟩
  exact⟨true,by rw[zif,zkx,if_neg (by omega)],⟨λ _ j h1 h2=>by omega,λ _=>rfl⟩⟩
 |succ m ih=>
  intro i n hi hn
  obtain⟨n,rfl⟩: ∃q,n=q+1:=⟨n - 1,by omega⟩
  have h1:i<a.length:=by omega
  obtain⟨b,e,hb⟩:=ih (i+1) n (by omega) (by omega)
  rw[zif,zkx,if_pos (by omega),zbq,zah (by omega),zbv h1,rvisZ,zaf,zbl (by omega),e]
  have hstep:RunZ a i↔(cVis a[i]/\(0<i->a[i - 1]<a[i]))/\RunZ a (i+1):=by
   constructor
   .intro h;exact⟨h i (Nat.le_refl _) h1,λ j hj hl=>h j (by omega) hl⟩
   .rintro ⟨h2,h3⟩ j hj hl
    rcases Nat.eq_or_lt_of_le hj with e|e
    .subst e;exact h2
    .exact h3 j e hl
  by_cases hv:cVis a[i]
  .rw[decide_eq_true hv]
   simp only[Bool.not_true,Bool.false_eq_true,if_false]
   by_cases h0:(0:Int)<(i:Int)
   .rw[if_pos h0,zah (by omega),i64_sub1 (by omega),zah (by omega)]
    have g:gi a ((i:Int) - 1)=a[i - 1]:=by
     rw[show(i:Int) - 1=((i - 1:Nat):Int)by omega,zbv (by omega)]
    rw[g]
    by_cases hle:a[i]≤a[i - 1]
    .rw[decide_eq_true hle,if_pos rfl]
     refine⟨false,rfl, ?_⟩
     simp only[Bool.false_eq_true,false_iff]
     intro h
     have:=(hstep.1 h).1.2 (by omega)
     omega
    .rw[decide_eq_false hle]
     refine⟨b,by simp, ?_⟩
     rw[hb,hstep]
     exact⟨λ h=>⟨⟨hv,λ _=>by omega⟩,h⟩,λ h=>h.2⟩
   .rw[if_neg h0]
    refine⟨b,by simp, ?_⟩
    rw[hb,hstep]
    exact⟨λ h=>⟨⟨hv,λ _=>by omega⟩,h⟩,λ h=>h.2⟩
  .rw[decide_eq_false hv]
   refine⟨false,by simp, ?_⟩
   simp only[Bool.false_eq_true,false_iff]
   intro h
   exact hv (hstep.1 h).1.1
theorem asc_steps {a:List Int} (h: ∀j (h:j<a.length),0<j->a[j - 1]<a[j]):a.Pairwise (λ x y=>x<y):=by
 rw[List.pairwise_iff_getElem]
 intro i j hi hj hij
 have: ∀k, ∀h:i+k<a.length,0<k->a[i]<a[i+k]:=by
  intro k
  induction k with
  |zero=>intro _ h;omega
  |succ k ih=>
   intro h1 _
   have h2:=h (i+(k+1)) h1 (by omega)
   have e:i+(k+1) - 1=i+k:=by omega
   simp only[e]at h2
   rcases Nat.eq_zero_or_pos k with hk|hk
   .subst hk;simpa using h2
   .have:=ih (by omega) hk;omega
 have h3:=this (j - i) (by omega) (by omega)
 have e:i+(j - i)=j:=by omega
 simpa[e]using h3
theorem run_setZ {a:List Int}:RunZ a 0↔a=setZ a:=by
 constructor
 .intro h
  refine asc_keyF (asc_steps (λ j hj h0=>(h j (Nat.zero_le _) hj).2 h0)) (λ x=> ?_)
  rw[decide_eq_true_iff]
  constructor
  .intro hx
   obtain⟨i,hi,rfl⟩:=List.getElem_of_mem hx
   exact⟨(h i (Nat.zero_le _) hi).1,hx⟩
  .exact λ h=>h.2
 .intro h j _ hj
  refine⟨(setZ_mem.1 (by rw[←h];exact List.getElem_mem hj)).1,λ h0=> ?_⟩
  have hp:a.Pairwise (λ x y=>x<y):=by rw[h];exact keyF_asc _
  exact List.pairwise_iff_getElem.1 hp (j - 1) j (by omega) hj (by omega)
theorem rValidSetI (a:List Int) (ha:a.length≤1000000000):m_ref16_ValidSet a=some (decide (a=setZ a)):=by
 have hFU:=zeo
 unfold m_ref16_ValidSet
 rw[zbq]
 obtain⟨b,e,hb⟩:=rValid_loop a ha a.length 0 FU (by omega) (by omega)
 rw[Int.natCast_zero]at e
 rw[e]
 rw[run_setZ]at hb
 cases b with
 |true=>rw[decide_eq_true (hb.1 rfl)]
 |false=>rw[decide_eq_false (λ h=>by have:=hb.2 h;cases this)]
def flg (s:List Bool) (x:Int):List Bool:=if cVis x then s.set (x - 2).toNat true else s
theorem flg_len (s:List Bool) (x:Int):(flg s x).length=s.length:=by unfold flg;split <;>simp
theorem flg_fold: ∀(l:List Int) (s:List Bool),(l.foldl flg s).length=s.length/\ ∀k,k<s.length->((l.foldl flg s)[k]?=some true↔s[k]?=some true∨(cVis ((k:Int)+2)/\((k:Int)+2)∈l))
 |[],s=>⟨rfl,λ k _=>by simp⟩
 |x::l,s=>by
  obtain⟨h1,h2⟩:=flg_fold l (flg s x)
  rw[List.foldl_cons]
  refine⟨by rw[h1,flg_len],λ k hk=> ?_⟩
  rw[h2 k (by rw[flg_len];exact hk)]
  have h3:(flg s x)[k]?=some true↔s[k]?=some true∨(cVis ((k:Int)+2)/\(k:Int)+2=x):=by
   unfold flg
   by_cases hv:cVis x
   .rw[if_pos hv,List.getElem?_set]
    by_cases he:(x - 2).toNat=k
    .have hx:(k:Int)+2=x:=by omega
     simp only[he,hk,if_true,true_iff]
     exact .inr ⟨hx ▸ hv,hx⟩
    .rw[if_neg he]
     constructor
     .exact .inl
     .rintro (h|⟨_,h⟩)
      .exact h
      .exact absurd (by omega) he
   .rw[if_neg hv]
    constructor
    .exact .inl
    .rintro (h|⟨h,h'⟩)
     .exact h
     .rw[h']at h;exact absurd h hv
  rw[h3,List.mem_cons]
  constructor
  .rintro ((h|⟨h,h'⟩)|⟨h,h'⟩)
   .exact .inl h
   .exact .inr ⟨h, .inl h'⟩
   .exact .inr ⟨h, .inr h'⟩
  .rintro (h|⟨h,h'|h'⟩)
   .exact .inl (.inl h)
   .exact .inl (.inr ⟨h,h'⟩)
   .exact .inr ⟨h,h'⟩
theorem cKeys_len:cKeys.length=1024:=by unfold cKeys;simp
theorem cKeys_at {i:Nat} (h:i<cKeys.length):cKeys[i]=(i:Int)+2:=by
 have:cKeys[i]?=some ((i:Int)+2):=by
  rw[cKeys_len]at h
  unfold cKeys
  rw[List.getElem?_map,List.getElem?_range h];rfl
 rw[List.getElem?_eq_getElem h]at this
 exact Option.some.inj this
theorem flg_run {ρ:Type} (K:List Bool->Option ρ): ∀(l:List Int) (s:List Bool),s.length=1024->
  foldK (λ s x k=>if cVis x then need ((0:Int)≤i64 (x - 2)/\i64 (x - 2)<1024/\i64 (x - 2)<(List.length s:Int)) (k (List.set s (Int.toNat (i64 (x - 2))) true))else k s) K l s=K (l.foldl flg s)
 |[],_,_=>rfl
 |x::l,s,h=>by
  rw[foldK,List.foldl_cons]
  by_cases hv:cVis x
  .have e:i64 (x - 2)=x - 2:=zfn (by omega)
   rw[if_pos hv,e,zah (by omega)]
   refine(flg_run K l _ (by rw[List.length_set];exact h)).trans ?_
   unfold flg;rw[if_pos hv]
  .rw[if_neg hv]
   refine(flg_run K l _ h).trans ?_
   have:flg s x=s:=by unfold flg;rw[if_neg hv]
   rw[this]
theorem rSetI (a:List Int) (ha:a.length≤1000000000):m_ref16_Set a=some (setZ a):=by
 unfold m_ref16_Set
 rw[zbq]
 have h:=loop_all a (by omega) (λ n (s:List Bool) i=>m_ref16_Set_L2 a (λ c=>jn (λ(b:List Int)=>some b) (λ k58=>zkq c k58 FU [] 0)) n s i)
  (λ s x k=>if cVis x then need ((0:Int)≤i64 (x - 2)/\i64 (x - 2)<1024/\i64 (x - 2)<(List.length s:Int)) (k (List.set s (Int.toNat (i64 (x - 2))) true))else k s) (λ c=>jn (λ(b:List Int)=>some b) (λ k58=>zkq c k58 FU [] 0)) (λ n s i hi=>by
   rw[m_ref16_Set_L2,m_ref16_Set_B2,if_pos (by omega),zbq,zah (by omega),zbv hi,rvisZ,zaf,zbl (by omega)]
   by_cases hv:cVis a[i]
   .rw[decide_eq_true hv,if_pos rfl,if_pos hv,zah (by omega)]
   .rw[decide_eq_false hv,if_neg hv];simp) (λ n s=>by rw[m_ref16_Set_L2,m_ref16_Set_B2,if_neg (by omega)]) (List.replicate 1024 false)
 rw[h,flg_run _ a _ (by rw[List.length_replicate]),zbq]
 obtain⟨f1,f2⟩:=flg_fold a (List.replicate 1024 false)
 generalize a.foldl flg (List.replicate 1024 false)=fl at f1 f2
 rw[List.length_replicate]at f1 f2
 have hb: ∀i (h:i<fl.length),fl[i]=decide (((i:Int)+2)∈a):=λ i hi=>by
  have:=f2 i (by omega)
  rw[List.getElem?_eq_getElem hi]at this
  have h0:(List.replicate 1024 false)[i]?≠some true:=by
   rw[List.getElem?_replicate];split <;>simp
  by_cases hm:(i:Int)+2∈a
  .rw[decide_eq_true hm];exact Option.some.inj (this.2 (.inr ⟨by unfold cVis;omega,hm⟩))
  .rw[decide_eq_false hm]
   cases hfi:fl[i]with
   |false=>rfl
   |true=>
    rw[hfi]at this
    rcases this.1 rfl with h|h
    .exact absurd h h0
    .exact absurd h.2 hm
 have h2:=loop_all cKeys (by rw[cKeys_len];omega) (λ n (s:List Int) i=>zkq fl (λ b=>some b) n s i)
  (λ r x k=>if decide (x∈a)then need (List.length r+1≤137438953472) (k (r++[id x]))else k r) (λ b=>some b) (λ n s i hi=>by
   rw[cKeys_len]at hi
   rw[zkq,m_ref16_Set_B4,if_pos (by omega),zbq,zah (by omega),zbv (by omega),hb i (by omega),cKeys_at,zfn (x:=2+(i:Int)) (by omega),Int.add_comm 2,zbl (by omega)]
   rfl) (λ n s=>by rw[zkq,m_ref16_Set_B4,cKeys_len,if_neg (by omega)]) []
 rw[h2,foldK_app (λ x=>decide (x∈a)) id _ _ _ (by rw[cKeys_len];simp)]
 rw[List.nil_append,List.map_id]
 unfold setZ keyF;rfl
theorem setZ_len (a:List Int):(setZ a).length≤1024:=by unfold setZ;exact keyF_len _
theorem wrap_u64Z (x:Int):IntKind.u64.wrap x=x % 18446744073709551616:=by
 unfold IntKind.wrap IntKind.bits IntKind.signed
 simp
theorem modZ (a:Int) {n:Int} (h0:0<n) (h1:n≤1000000000000): ∃y,m_help_Mod a n=some y/\0≤y/\y<n:=by
 have en:IntKind.u64.wrap n=n:=by rw[wrap_u64Z];omega
 have ha:=wrap_u64Z a
 have h3:0≤Int.tmod (IntKind.u64.wrap a) n:=Int.tmod_nonneg _ (by omega)
 have h4:Int.tmod (IntKind.u64.wrap a) n<n:=Int.tmod_lt_of_pos _ h0
 unfold m_help_Mod
 rw[en,zah (by omega)]
 exact⟨_,rfl,by rw[zfn (by omega)];exact h3,by rw[zfn (by omega)];exact h4⟩
end
noncomputable section
inductive Sh:Nat->List UInt8->Prop
 |int (k:Nat) (b:List UInt8) (h:b.length=8):Sh (k+1) (1::b)
 |bool (k:Nat) (b:UInt8) (h:b.toNat≤1):Sh (k+1) [2,b]
 |name (k:Nat) (h l:UInt8):Sh (k+1) [10,h,l]
 |comp (k:Nat) (c h l:UInt8) (ps:List (List UInt8)) (hc:3≤c.toNat/\c.toNat≤9) (hn:ps.length=h.toNat*256+l.toNat) (hp: ∀p∈ps,Sh k p):Sh (k+1) (c::h::l::ps.flatten)
theorem Sh.mono {k:Nat} {v:List UInt8} (h:Sh k v):Sh (k+1) v:=by
 induction h with
 |int k b h=>exact .int _ b h
 |bool k b h=>exact .bool _ b h
 |name k h l=>exact .name _ h l
 |comp k c h l ps hc hn hp ih=>exact .comp _ c h l ps hc hn ih
theorem Sh.le {k j:Nat} {v:List UInt8} (h:Sh k v) (hj:k≤j):Sh j v:=by
 obtain⟨d,rfl⟩:=Nat.exists_eq_add_of_le hj
 induction d with
 |zero=>exact h
 |succ d ih=>exact(ih (by omega)).mono
theorem Sh.len {k:Nat} {v:List UInt8} (h:Sh k v):2≤v.length:=by
 cases h <;>simp <;>omega
theorem Sh.pos {k:Nat} {v:List UInt8} (h:Sh k v):1≤k:=by cases h <;>omega
theorem flat_uniq {r r':List UInt8}: ∀{ps qs:List (List UInt8)},(∀p∈ps, ∀q∈qs, ∀r r':List UInt8,p++r=q++r'->p=q/\r=r')->ps.length=qs.length->ps.flatten++r=qs.flatten++r'->ps=qs/\r=r'
 |[],[],_,_,e=>⟨rfl,by simpa using e⟩
 |p::ps,q::qs,hu,hl,e=>by
  simp only[List.flatten_cons,List.append_assoc]at e
  obtain⟨e1,e2⟩:=hu p (by simp) q (by simp) _ _ e
  obtain⟨e3,e4⟩:=flat_uniq (λ a ha b hb=>hu a (by simp[ha]) b (by simp[hb])) (by simpa using hl) e2
  exact⟨by rw[e1,e3],e4⟩
theorem Sh.uniq {k:Nat} {v:List UInt8} (h:Sh k v): ∀{j:Nat} {w:List UInt8},Sh j w-> ∀r r':List UInt8,v++r=w++r'->v=w/\r=r':=by
 induction h with
 |int k b hb=>
  intro j w hw r r' e
  cases hw with
  |int j b' hb'=>
   simp only[List.cons_append,List.cons.injEq,true_and]at e
   obtain⟨e1,e2⟩:=List.append_inj e (by omega)
   exact⟨by rw[e1],e2⟩
  |bool j b' hb'=>simp at e
  |name j h' l'=>simp at e
  |comp j c' h' l' ps' hc' hn' hp'=>
   simp only[List.cons_append,List.cons.injEq]at e
   have:=e.1;subst this;simp at hc'
 |bool k b hb=>
  intro j w hw r r' e
  cases hw with
  |int j b' hb'=>simp at e
  |bool j b' hb'=>simp at e;exact⟨by rw[e.1],e.2⟩
  |name j h' l'=>simp at e
  |comp j c' h' l' ps' hc' hn' hp'=>
   simp only[List.cons_append,List.cons.injEq]at e
   have:=e.1;subst this;simp at hc'
 |name k h l=>
  intro j w hw r r' e
  cases hw with
  |int j b' hb'=>simp at e
  |bool j b' hb'=>simp at e
  |name j h' l'=>simp at e;exact⟨by rw[e.1,e.2.1],e.2.2⟩
  |comp j c' h' l' ps' hc' hn' hp'=>
   simp only[List.cons_append,List.cons.injEq]at e
   have:=e.1;subst this;simp at hc'
 |comp k c h l ps hc hn hp ih=>
  intro j w hw r r' e
  cases hw with
  |int j b' hb'=>
   simp only[List.cons_append,List.cons.injEq]at e
   have:=e.1;subst this;simp at hc
  |bool j b' hb'=>
   simp only[List.cons_append,List.cons.injEq]at e
   have:=e.1;subst this;simp at hc
  |name j h' l'=>
   simp only[List.cons_append,List.cons.injEq]at e
   have:=e.1;subst this;simp at hc
  |comp j c' h' l' ps' hc' hn' hp'=>
   simp only[List.cons_append,List.cons.injEq]at e
   obtain⟨rfl,rfl,rfl,e⟩:=e
   obtain⟨e1,e2⟩:=flat_uniq (λ p hp q hq r r' e=>ih p hp (hp' q hq) r r' e) (by omega) e
   exact⟨by rw[e1],e2⟩
theorem Sh.flat {k j:Nat} {ps qs:List (List UInt8)} {r r':List UInt8} (hp: ∀p∈ps,Sh k p) (hq: ∀q∈qs,Sh j q) (hl:ps.length=qs.length) (e:ps.flatten++r=qs.flatten++r'):ps=qs/\r=r':=
 flat_uniq (λ p hp' q hq' r r' e=>(hp p hp').uniq (hq q hq') r r' e) hl e
def sumN (f:List UInt8->Nat):Nat->List UInt8->Nat
 |0,_=>0
 |n+1,u=>f u+sumN f n (u.drop (f u))
def splitN (f:List UInt8->Nat):Nat->List UInt8->List (List UInt8)
 |0,_=>[]
 |n+1,u=>u.take (f u)::splitN f n (u.drop (f u))
def spanV:Nat->List UInt8->Nat
 |0,_=>0
 |k+1,s=>if gi s 0=1 then 9 else if gi s 0=2 then 2 else if gi s 0=10 then 3 else 3+sumN (spanV k) ((gi s 1).toNat*256+(gi s 2).toNat) (s.drop 3)
def partsV (k:Nat) (v:List UInt8):List (List UInt8):=splitN (spanV k) ((gi v 1).toNat*256+(gi v 2).toNat) (v.drop 3)
theorem sumN_flat {f:List UInt8->Nat}: ∀{ps:List (List UInt8)} {r:List UInt8},(∀p∈ps, ∀r:List UInt8,f (p++r)=p.length)->sumN f ps.length (ps.flatten++r)=ps.flatten.length
 |[],_,_=>rfl
 |p::ps,r,h=>by
  have h0:=h p (by simp) (ps.flatten++r)
  rw[List.length_cons,sumN,List.flatten_cons,List.append_assoc,h0,List.drop_left,sumN_flat (λ q hq=>h q (by simp[hq])),List.length_append]
theorem splitN_flat {f:List UInt8->Nat}: ∀{ps:List (List UInt8)} {r:List UInt8},(∀p∈ps, ∀r:List UInt8,f (p++r)=p.length)->splitN f ps.length (ps.flatten++r)=ps
 |[],_,_=>rfl
 |p::ps,r,h=>by
  have h0:=h p (by simp) (ps.flatten++r)
  rw[List.length_cons,splitN,List.flatten_cons,List.append_assoc,h0,List.drop_left,splitN_flat (λ q hq=>h q (by simp[hq])),List.take_left]
theorem gi_0 (a:UInt8) (s:List UInt8):gi (a::s) 0=a:=rfl
theorem gi_1 (a b:UInt8) (s:List UInt8):gi (a::b::s) 1=b:=rfl
theorem gi_2 (a b c:UInt8) (s:List UInt8):gi (a::b::c::s) 2=c:=rfl
theorem kind_ne {c:UInt8} (hc:3≤c.toNat/\c.toNat≤9):c≠1/\c≠2/\c≠10:=by
 refine⟨?_, ?_, ?_⟩ <;>rintro rfl <;>simp at hc
theorem spanV_eq {k:Nat} {v:List UInt8} (h:Sh k v): ∀r:List UInt8,spanV k (v++r)=v.length:=by
 induction h with
 |int k b hb=>intro r;simp[spanV,gi_0,hb]
 |bool k b hb=>intro r;simp[spanV,gi_0]
 |name k h l=>intro r;simp[spanV,gi_0]
 |comp k c h l ps hc hn hp ih=>
  intro r
  obtain⟨n1,n2,n3⟩:=kind_ne hc
  simp only[spanV,List.cons_append,gi_0,gi_1,gi_2,n1,n2,n3,if_false,List.drop_succ_cons,List.drop_zero]
  rw[←hn,sumN_flat (λ p hp r=>ih p hp r)]
  simp;omega
theorem partsV_eq {k:Nat} {c h l:UInt8} {ps:List (List UInt8)} (hn:ps.length=h.toNat*256+l.toNat) (hp: ∀p∈ps,Sh k p):partsV k (c::h::l::ps.flatten)=ps:=by
 unfold partsV
 simp only[gi_1,gi_2,List.drop_succ_cons,List.drop_zero]
 rw[←hn]
 have:=splitN_flat (r:=[]) (λ p hp' r=>spanV_eq (hp p hp') r) (ps:=ps)
 rwa [List.append_nil]at this
end
noncomputable section
structure TO {α:Type} (P:α->Prop) (c:α->α->Int):Prop where
 eq: ∀a b,P a->P b->(c a b=0↔a=b)
 anti: ∀a b,P a->P b->c b a= - c a b
 trans: ∀a b d,P a->P b->P d->c a b<0->c b d<0->c a d<0
 rng: ∀a b,P a->P b->c a b= -1∨c a b=0∨c a b=1
theorem TO.self {α:Type} {P:α->Prop} {c:α->α->Int} (h:TO P c) (a:α) (ha:P a):c a a=0:=(h.eq a a ha ha).2 rfl
theorem TO.sub {α:Type} {P Q:α->Prop} {c:α->α->Int} (h:TO P c) (hq: ∀a,Q a->P a):TO Q c:=
 ⟨λ a b ha hb=>h.eq a b (hq a ha) (hq b hb),λ a b ha hb=>h.anti a b (hq a ha) (hq b hb),λ a b d ha hb hd=>h.trans a b d (hq a ha) (hq b hb) (hq d hd),λ a b ha hb=>h.rng a b (hq a ha) (hq b hb)⟩
theorem TO.congr {α:Type} {P:α->Prop} {c c':α->α->Int} (h:TO P c) (hc: ∀a b,P a->P b->c' a b=c a b):TO P c':=
 ⟨λ a b ha hb=>by rw[hc a b ha hb];exact h.eq a b ha hb,λ a b ha hb=>by rw[hc a b ha hb,hc b a hb ha];exact h.anti a b ha hb,
   λ a b d ha hb hd=>by rw[hc a b ha hb,hc b d hb hd,hc a d ha hd];exact h.trans a b d ha hb hd,λ a b ha hb=>by rw[hc a b ha hb];exact h.rng a b ha hb⟩
theorem TO.inj {α β:Type} {P:α->Prop} {Q:β->Prop} {c:β->β->Int} (h:TO Q c) (g:α->β) (hg: ∀a b,P a->P b->g a=g b->a=b) (hq: ∀a,P a->Q (g a)):TO P (λ a b=>c (g a) (g b)):=
 ⟨λ a b ha hb=>(h.eq _ _ (hq a ha) (hq b hb)).trans ⟨hg a b ha hb,λ e=>by rw[e]⟩,λ a b ha hb=>h.anti _ _ (hq a ha) (hq b hb),λ a b d ha hb hd=>h.trans _ _ _ (hq a ha) (hq b hb) (hq d hd),λ a b ha hb=>h.rng _ _ (hq a ha) (hq b hb)⟩
theorem TO.byKey {α κ:Type} {P:α->Prop} {c:α->α->Int} (key:α->κ) {ck:κ->κ->Int} (hk:TO (λ _=>True) ck) (h: ∀K,TO (λ v=>P v/\key v=K) c) (hx: ∀a b,P a->P b->key a≠key b->c a b=ck (key a) (key b)):TO P c:=by
 have hne: ∀a b,key a≠key b->ck (key a) (key b)≠0:=λ a b hne e=>hne ((hk.eq _ _ trivial trivial).1 e)
 refine⟨λ a b ha hb=> ?_,λ a b ha hb=> ?_,λ a b d ha hb hd h1 h2=> ?_,λ a b ha hb=> ?_⟩
 .by_cases e:key a=key b
  .exact(h (key b)).eq a b ⟨ha,e⟩ ⟨hb,rfl⟩
  .rw[hx a b ha hb e]
   exact⟨λ h0=>absurd h0 (hne a b e),λ h0=>absurd (congrArg key h0) e⟩
 .by_cases e:key a=key b
  .exact(h (key b)).anti a b ⟨ha,e⟩ ⟨hb,rfl⟩
  .rw[hx a b ha hb e,hx b a hb ha (Ne.symm e)];exact hk.anti _ _ trivial trivial
 .by_cases e1:key a=key b
  .by_cases e2:key b=key d
   .exact(h (key d)).trans a b d ⟨ha,e1.trans e2⟩ ⟨hb,e2⟩ ⟨hd,rfl⟩ h1 h2
   .rw[hx b d hb hd e2]at h2
    rw[hx a d ha hd (by rw[e1];exact e2),e1];exact h2
  .rw[hx a b ha hb e1]at h1
   by_cases e2:key b=key d
   .rw[hx a d ha hd (by rw[←e2];exact e1), ←e2];exact h1
   .rw[hx b d hb hd e2]at h2
    have h3:=hk.trans _ _ _ trivial trivial trivial h1 h2
    have e3:key a≠key d:=λ e=>by rw[e,hk.self _ trivial]at h3;omega
    rw[hx a d ha hd e3];exact h3
 .by_cases e:key a=key b
  .exact(h (key b)).rng a b ⟨ha,e⟩ ⟨hb,rfl⟩
  .rw[hx a b ha hb e];exact hk.rng _ _ trivial trivial
def sgn (x y:Int):Int:=if x<y then -1 else if y<x then 1 else 0
theorem TO_sgn:TO (λ _:Int=>True) sgn:=by
 refine⟨λ a b _ _=> ?_,λ a b _ _=> ?_,λ a b d _ _ _=> ?_,λ a b _ _=> ?_⟩ <;>unfold sgn <;>repeat' split
 all_goals omega
def sgnB (x y:UInt8):Int:=if x<y then -1 else if y<x then 1 else 0
theorem TO_sgnB:TO (λ _:UInt8=>True) sgnB:=by
 have h:=TO_sgn.inj (P:=λ _:UInt8=>True) (λ b=>(b.toNat:Int)) (λ a b _ _ e=>u8_inj (by have e':(a.toNat:Int)=(b.toNat:Int):=e;omega)) (λ _ _=>trivial)
 refine h.congr λ a b _ _=> ?_
 unfold sgnB sgn
 simp only[UInt8.lt_iff_toNat_lt,Int.ofNat_lt]
def lexCmp {α:Type} (c:α->α->Int):List α->List α->Int
 |[],[]=>0
 |[],_::_=> -1
 |_::_,[]=>1
 |x::xs,y::ys=>if c x y≠0 then c x y else lexCmp c xs ys
theorem TO.lex {α:Type} {P:α->Prop} {c:α->α->Int} (h:TO P c):TO (λ l:List α=> ∀x∈l,P x) (lexCmp c):=by
 refine⟨λ a=> ?_,λ a=> ?_,λ a=> ?_,λ a=> ?_⟩
 .induction a with
  |nil=>intro b _ _;cases b <;>simp[lexCmp]
  |cons x xs ih=>
   intro b ha hb
   cases b with
   |nil=>simp[lexCmp]
   |cons y ys=>
    have hx:=ha x (by simp)
    have hy:=hb y (by simp)
    have ih:=ih ys (λ z hz=>ha z (by simp[hz])) (λ z hz=>hb z (by simp[hz]))
    have he:=h.eq x y hx hy
    rw[lexCmp]
    by_cases h0:c x y=0
    .rw[if_neg (by simpa using h0),ih]
     have:=he.1 h0
     simp[this]
    .rw[if_pos h0]
     exact⟨λ e=>absurd e h0,λ e=>by simp at e;exact absurd (he.2 e.1) h0⟩
 .induction a with
  |nil=>intro b _ _;cases b <;>simp[lexCmp]
  |cons x xs ih=>
   intro b ha hb
   cases b with
   |nil=>simp[lexCmp]
   |cons y ys=>
    have hx:=ha x (by simp)
    have hy:=hb y (by simp)
    have ih:=ih ys (λ z hz=>ha z (by simp[hz])) (λ z hz=>hb z (by simp[hz]))
    have he:=h.anti x y hx hy
    rw[lexCmp,lexCmp]
    by_cases h0:c x y=0
    .rw[if_neg (show¬c y x≠0 by rw[he,h0];simp),if_neg (show¬c x y≠0 by simpa using h0),ih]
    .rw[if_pos (show c y x≠0 by rw[he];omega),if_pos h0,he]
 .induction a with
  |nil=>
   intro b d _ _ _ h1 h2
   cases d with
   |nil=>cases b <;>simp[lexCmp]at h1 h2
   |cons z zs=>simp[lexCmp]
  |cons x xs ih=>
   intro b d ha hb hd h1 h2
   cases b with
   |nil=>simp[lexCmp]at h1
   |cons y ys=>
    cases d with
    |nil=>simp[lexCmp]at h2
    |cons z zs=>
     have hx:=ha x (by simp)
     have hy:=hb y (by simp)
     have hz:=hd z (by simp)
     have ih:=ih ys zs (λ z hz=>ha z (by simp[hz])) (λ z hz=>hb z (by simp[hz])) (λ z hz=>hd z (by simp[hz]))
     rw[lexCmp]at h1 h2⊢
     by_cases e1:c x y=0
     .have e1':=(h.eq x y hx hy).1 e1
      subst e1'
      rw[if_neg (by simpa using e1)]at h1
      by_cases e2:c x z=0
      .rw[if_neg (by simpa using e2)]at h2⊢
       exact ih h1 h2
      .rw[if_pos e2]at h2 ⊢;exact h2
     .rw[if_pos e1]at h1
      by_cases e2:c y z=0
      .have e2':=(h.eq y z hy hz).1 e2
       subst e2'
       rw[if_pos e1];exact h1
      .rw[if_pos e2]at h2
       have h3:=h.trans x y z hx hy hz h1 h2
       rw[if_pos (by omega)];exact h3
 .induction a with
  |nil=>intro b _ _;cases b <;>simp[lexCmp]
  |cons x xs ih=>
   intro b ha hb
   cases b with
   |nil=>simp[lexCmp]
   |cons y ys=>
    rw[lexCmp]
    split
    .exact h.rng x y (ha x (by simp)) (hb y (by simp))
    .exact ih ys (λ z hz=>ha z (by simp[hz])) (λ z hz=>hb z (by simp[hz]))
theorem lexCmp_congr {α:Type} {c c':α->α->Int}: ∀{a b:List α},(∀x∈a, ∀y∈b,c x y=c' x y)->lexCmp c a b=lexCmp c' a b
 |[],[],_=>rfl
 |[],_::_,_=>rfl
 |_::_,[],_=>rfl
 |x::xs,y::ys,h=>by
  rw[lexCmp,lexCmp,h x (by simp) y (by simp),lexCmp_congr (λ z hz w hw=>h z (by simp[hz]) w (by simp[hw]))]
def strCmp (a b:List UInt8):Int:=lexCmp sgnB a b
theorem TO_str:TO (λ _:List UInt8=>True) strCmp:=(TO_sgnB.lex).sub (λ _ _=>λ _ _=>trivial)
theorem ltB_iff: ∀a b:List UInt8,ltB a b=decide (strCmp a b<0)
 |[],[]=>rfl
 |[],_::_=>rfl
 |_::_,[]=>by simp[ltB,strCmp,lexCmp]
 |x::xs,y::ys=>by
  have ih:=ltB_iff xs ys
  unfold strCmp at ih⊢
  rw[ltB,lexCmp,ih]
  unfold sgnB
  by_cases h:x<y
  .simp[h]
  .by_cases h2:y<x
   .have h3:x≠y:=λ e=>by subst e;exact h h2
    simp[h,h2,h3]
   .have h3:x=y:=by
     apply u8_inj
     rw[UInt8.lt_iff_toNat_lt]at h h2
     omega
    subst h3
    simp[h]
def beNat (l:List UInt8):Nat:=l.foldl (λ n b=>n*256+b.toNat) 0
theorem beNat_snoc (l:List UInt8) (b:UInt8):beNat (l++[b])=beNat l*256+b.toNat:=by simp[beNat]
theorem beNat_lt (l:List UInt8):beNat l<256^l.length:=by
 have key: ∀n (l:List UInt8),l.length=n->beNat l<256^l.length:=by
  intro n
  induction n with
  |zero=>intro l h;have:=List.length_eq_zero_iff.1 h;subst this;simp[beNat]
  |succ n ih=>
   intro l h
   rcases List.eq_nil_or_concat l with rfl|⟨t,b,rfl⟩
   .simp[beNat]
   .rw[List.concat_eq_append]at h⊢
    simp at h
    have h1:=ih t h
    have h2:=UInt8.toNat_lt b
    rw[beNat_snoc,List.length_append,List.length_singleton,Nat.pow_succ]
    omega
 exact key l.length l rfl
theorem beNat_inj: ∀(n:Nat) (a b:List UInt8),a.length=n->b.length=n->beNat a=beNat b->a=b:=by
 intro n
 induction n with
 |zero=>intro a b ha hb _;rw[List.length_eq_zero_iff.1 ha,List.length_eq_zero_iff.1 hb]
 |succ n ih=>
  intro a b ha hb e
  rcases List.eq_nil_or_concat a with rfl|⟨s,x,rfl⟩
  .simp at ha
  .rcases List.eq_nil_or_concat b with rfl|⟨t,y,rfl⟩
   .simp at hb
   .simp only[List.concat_eq_append]at ha hb e⊢
    simp at ha hb
    rw[beNat_snoc,beNat_snoc]at e
    have h1:=UInt8.toNat_lt x
    have h2:=UInt8.toNat_lt y
    have e1:=ih s t ha hb (by omega)
    have e2:x=y:=u8_inj (by omega)
    rw[e1,e2]
def numV (v:List UInt8):Int:=i64 (beNat (v.drop 1))
theorem i64_inj {a b:Nat} (ha:a<18446744073709551616) (hb:b<18446744073709551616) (h:i64 (a:Int)=i64 (b:Int)):a=b:=by
 unfold i64 IntKind.wrap IntKind.bits IntKind.signed at h
 simp at h
 split at h <;>split at h <;>omega
def cmpV:Nat->List UInt8->List UInt8->Int
 |0,_,_=>0
 |k+1,a,b=>if a=b then 0 else if gi a 0≠gi b 0 then sgnB (gi a 0) (gi b 0)else if gi a 0=1 then sgn (numV a) (numV b)else if gi a 0=2∨gi a 0=10 then strCmp a b else lexCmp (cmpV k) (partsV k a) (partsV k b)
theorem Sh.kind1 {k:Nat} {v:List UInt8} (h:Sh k v) (h1:gi v 0=1):v.length=9/\v=1::v.drop 1:=by
 cases h with
 |int k b hb=>simp[hb]
 |bool k b hb=>simp[gi_0]at h1
 |name k h l=>simp[gi_0]at h1
 |comp k c h l ps hc hn hp=>simp[gi_0]at h1;subst h1;simp at hc
theorem Sh.kindc {k:Nat} {v:List UInt8} (h:Sh (k+1) v) (h1:gi v 0≠1) (h2: ¬(gi v 0=2∨gi v 0=10)): ∃c x y ps,v=c::x::y::ps.flatten/\ps.length=x.toNat*256+y.toNat/\(∀p∈ps,Sh k p)/\partsV k v=ps/\(3≤c.toNat/\c.toNat≤9):=by
 cases h with
 |int k b hb=>simp[gi_0]at h1
 |bool k b hb=>simp[gi_0]at h2
 |name k h l=>simp[gi_0]at h2
 |comp k c h l ps hc hn hp=>exact⟨c,h,l,ps,rfl,hn,hp,partsV_eq hn hp,hc⟩
theorem cmpV_TO: ∀k,TO (Sh k) (cmpV k)
 |0=>⟨λ a b ha=>absurd ha.pos (by omega),λ a b ha=>absurd ha.pos (by omega),λ a b d ha=>absurd ha.pos (by omega),λ a b ha=>absurd ha.pos (by omega)⟩
 |k+1=>by
  have ih:=cmpV_TO k
  refine TO.byKey (λ v=>gi v 0) TO_sgnB (λ K=> ?_) (λ a b ha hb hne=> ?_)
  .have drop0: ∀{f:List UInt8->List UInt8->Int},TO (λ v=>Sh (k+1) v/\gi v 0=K) f->(∀a b,Sh (k+1) a/\gi a 0=K->Sh (k+1) b/\gi b 0=K->a≠b->cmpV (k+1) a b=f a b)->TO (λ v=>Sh (k+1) v/\gi v 0=K) (cmpV (k+1)):=λ {f} hf hc=>hf.congr (λ a b ha hb=>by
    by_cases e:a=b
    .subst e;rw[hf.self a ha];simp[cmpV]
    .exact hc a b ha hb e)
   by_cases h1:K=1
   .subst h1
    refine drop0 (f:=λ a b=>sgn (numV a) (numV b)) (TO_sgn.inj numV (λ a b ha hb e=> ?_) (λ _ _=>trivial)) (λ a b ha hb hne=> ?_)
    .obtain⟨l1,e1⟩:=ha.1.kind1 ha.2
     obtain⟨l2,e2⟩:=hb.1.kind1 hb.2
     have hb1:=beNat_lt (a.drop 1)
     have hb2:=beNat_lt (b.drop 1)
     rw[List.length_drop,l1]at hb1
     rw[List.length_drop,l2]at hb2
     have:=beNat_inj 8 (a.drop 1) (b.drop 1) (by simp[l1]) (by simp[l2]) (i64_inj (by omega) (by omega) e)
     rw[e1,e2,this]
    .rw[cmpV,if_neg hne,if_neg (by rw[ha.2,hb.2];simp),if_pos ha.2]
   .by_cases h2:K=2∨K=10
    .refine drop0 (f:=strCmp) (TO_str.sub (λ _ _=>trivial)) (λ a b ha hb hne=> ?_)
     rw[cmpV,if_neg hne,if_neg (by rw[ha.2,hb.2];simp),if_neg (by rw[ha.2];exact h1),if_pos (by rw[ha.2];exact h2)]
    .refine drop0 (f:=λ a b=>lexCmp (cmpV k) (partsV k a) (partsV k b)) (ih.lex.inj (partsV k) (λ a b ha hb e=> ?_) (λ a ha=> ?_)) (λ a b ha hb hne=> ?_)
     .obtain⟨c,x,y,ps,rfl,hn,_,hp,_⟩:=ha.1.kindc (by rw[ha.2];exact h1) (by rw[ha.2];exact h2)
      obtain⟨c',x',y',ps',rfl,hn',_,hp',_⟩:=hb.1.kindc (by rw[hb.2];exact h1) (by rw[hb.2];exact h2)
      rw[hp,hp']at e
      subst e
      have hc:c=c':=by have h1:=ha.2;have h2:=hb.2;simp only[gi_0]at h1 h2;rw[h1,h2]
      have q1:=UInt8.toNat_lt y
      have q2:=UInt8.toNat_lt y'
      have hx:x=x':=u8_inj (by omega)
      have hy:y=y':=u8_inj (by omega)
      rw[hc,hx,hy]
     .obtain⟨c,x,y,ps,rfl,hn,hs,hp,_⟩:=ha.1.kindc (by rw[ha.2];exact h1) (by rw[ha.2];exact h2)
      rw[hp];exact hs
     .rw[cmpV,if_neg hne,if_neg (by rw[ha.2,hb.2];simp),if_neg (by rw[ha.2];exact h1),if_neg (by rw[ha.2];exact h2)]
  .have hab:a≠b:=λ e=>hne (by rw[e])
   rw[cmpV,if_neg hab,if_pos hne]
theorem cmpV_mono: ∀(k:Nat) {a b:List UInt8},Sh k a->Sh k b->cmpV (k+1) a b=cmpV k a b
 |0,a,b,ha,_=>absurd ha.pos (by omega)
 |k+1,a,b,ha,hb=>by
  rw[cmpV,cmpV]
  by_cases e:a=b
  .simp[e]
  .rw[if_neg e,if_neg e]
   by_cases e1:gi a 0≠gi b 0
   .rw[if_pos e1,if_pos e1]
   .rw[if_neg e1,if_neg e1]
    by_cases e2:gi a 0=1
    .rw[if_pos e2,if_pos e2]
    .rw[if_neg e2,if_neg e2]
     by_cases e3:gi a 0=2∨gi a 0=10
     .rw[if_pos e3,if_pos e3]
     .rw[if_neg e3,if_neg e3]
      have e1':gi a 0=gi b 0:=by simpa using e1
      obtain⟨c,x,y,ps,rfl,hn,hs,hp,hc⟩:=ha.kindc e2 e3
      obtain⟨c',x',y',ps',rfl,hn',hs',hp',hc'⟩:=hb.kindc (by rw[←e1'];exact e2) (by rw[←e1'];exact e3)
      rw[partsV_eq hn (λ p h=>(hs p h).mono),partsV_eq hn' (λ p h=>(hs' p h).mono),hp,hp']
      exact lexCmp_congr (λ p h q h'=>cmpV_mono k (hs p h) (hs' q h'))
theorem cmpV_le {k j:Nat} {a b:List UInt8} (ha:Sh k a) (hb:Sh k b) (hj:k≤j):cmpV j a b=cmpV k a b:=by
 obtain⟨d,rfl⟩:=Nat.exists_eq_add_of_le hj
 induction d with
 |zero=>rfl
 |succ d ih=>exact(cmpV_mono (k+d) (ha.le (by omega)) (hb.le (by omega))).trans (ih (by omega))
end
noncomputable section
attribute [local irreducible] FU
theorem FU_k (k:Nat) (h:k≤4611686018427387904): ∃n,FU=n+k:=⟨FU - k,by have:=zeo;omega⟩
theorem zju {ρ:Type} {s:List UInt8} {m:Option ρ} (h:0<s.length):need ((0:Int)≤0/\0<(List.length s:Int)) m=m:=zah (by omega)
theorem wrap_u64 (x:Int):IntKind.u64.wrap x=x % 18446744073709551616:=by
 unfold IntKind.wrap IntKind.bits IntKind.signed
 simp
theorem u64_step (n:Nat) (b:UInt8) (hn:n<72057594037927936):bOr .u64 (IntKind.u64.wrap ((n:Int)*2^min (Int.toNat 8) IntKind.u64.bits)) (UInt8.toNat b:Int)=((n*256+b.toNat:Nat):Int):=by
 have e1:(2:Int)^min (Int.toNat 8) IntKind.u64.bits=256:=rfl
 have hb:=UInt8.toNat_lt b
 have e2:IntKind.u64.wrap ((n:Int)*256)=((n*256:Nat):Int):=by rw[wrap_u64];omega
 rw[e1,e2]
 unfold bOr
 rw[BitVec.toNat_or,show IntKind.u64.bits=64 from rfl,bv_nat 64 (n*256) (by omega),bv_nat 64 b.toNat (by omega)]
 have h3:=Nat.two_pow_add_eq_or_of_lt (i:=8) (b:=b.toNat) (by omega) n
 rw[show n*256=2^8*n by omega, ←h3,wrap_u64]
 omega
theorem i64_step (h l:UInt8):bOr .i64 (i64 ((UInt8.toNat h:Int)*2^min (Int.toNat 8) IntKind.i64.bits)) (UInt8.toNat l:Int)=((h.toNat*256+l.toNat:Nat):Int):=by
 have e1:(2:Int)^min (Int.toNat 8) IntKind.i64.bits=256:=rfl
 have hh:=UInt8.toNat_lt h
 have hl:=UInt8.toNat_lt l
 have e2:i64 ((h.toNat:Int)*256)=((h.toNat*256:Nat):Int):=by rw[zfn (by omega)];omega
 rw[e1,e2,bOr_nat _ _ (by omega) (by omega)]
 have h3:=Nat.two_pow_add_eq_or_of_lt (i:=8) (b:=l.toNat) (by omega) h.toNat
 rw[show h.toNat*256=2^8*h.toNat by omega, ←h3]
theorem take_snoc {s:List UInt8} {i:Nat} (h:i<s.length):s.take (i+1)=s.take i++[s[i]]:=by rw[List.take_append_getElem h]
theorem vInteger (v:List UInt8) (h:9≤v.length):zhe v=some (i64 (beNat ((v.drop 1).take 8))):=by
 have hFU:=zeo
 unfold zhe
 rw[zbq]
 have loop: ∀(m i n:Nat),i+m=9->1≤i->m<n->zjs v (λ a=>some (i64 a)) n (beNat ((v.drop 1).take (i - 1))) i=some (i64 (beNat ((v.drop 1).take 8))):=by
  intro m
  induction m with
  |zero=>
   intro i n hi h1 hn
   obtain⟨n,rfl⟩: ∃k,n=k+1:=⟨n - 1,by omega⟩
   obtain rfl:i=9:=by omega
   rw[zjs,zmm,if_neg (by omega)]
  |succ m ih=>
   intro i n hi h1 hn
   obtain⟨n,rfl⟩: ∃k,n=k+1:=⟨n - 1,by omega⟩
   have hb:=beNat_lt ((v.drop 1).take (i - 1))
   have hl:((v.drop 1).take (i - 1)).length=i - 1:=by simp;omega
   rw[hl]at hb
   have hp:256^(i - 1)≤256^7:=Nat.pow_le_pow_right (by omega) (by omega)
   rw[zjs,zmm,if_pos (by omega),zah (by omega),u64_step _ _ (by omega),zbl (by omega),zbv (by omega)]
   have e:beNat ((v.drop 1).take (i - 1))*256+v[i].toNat=beNat ((v.drop 1).take (i+1 - 1)):=by
    rw[show i+1 - 1=(i - 1)+1 by omega,take_snoc (by simp;omega),beNat_snoc]
    congr 2
    rw[List.getElem_drop]
    congr 1;omega
   rw[e]
   exact ih (i+1) n (by omega) (by omega) (by omega)
 exact loop 8 1 FU (by omega) (by omega) (by omega)
theorem rNumber (s:List UInt8) (h:8≤s.length):zkk s=some (i64 (beNat (s.take 8))):=by
 have hFU:=zeo
 unfold zkk
 rw[zbq]
 have loop: ∀(m i n:Nat),i+m=8->m<n->zls s (λ a=>some (i64 a)) n (beNat (s.take i)) i=some (i64 (beNat (s.take 8))):=by
  intro m
  induction m with
  |zero=>
   intro i n hi hn
   obtain⟨n,rfl⟩: ∃k,n=k+1:=⟨n - 1,by omega⟩
   obtain rfl:i=8:=by omega
   rw[zls,m_ref9_number_B2,if_neg (by omega)]
  |succ m ih=>
   intro i n hi hn
   obtain⟨n,rfl⟩: ∃k,n=k+1:=⟨n - 1,by omega⟩
   have hb:=beNat_lt (s.take i)
   have hl:(s.take i).length=i:=by simp;omega
   rw[hl]at hb
   have hp:256^i≤256^7:=Nat.pow_le_pow_right (by omega) (by omega)
   rw[zls,m_ref9_number_B2,if_pos (by omega),zah (by omega),u64_step _ _ (by omega),zbl (by omega),zbv (by omega)]
   have e:beNat (s.take i)*256+s[i].toNat=beNat (s.take (i+1)):=by rw[take_snoc (by omega),beNat_snoc]
   rw[e]
   exact ih (i+1) n (by omega) (by omega)
 exact loop 8 0 FU (by omega) (by omega)
theorem cByte (a b:UInt8):zma a b=some (sgnB a b):=by
 unfold zma m_cmp_isNaN_byte sgnB
 simp only[zaf]
 by_cases h1:a<b <;>by_cases h2:b<a <;>simp[h1,h2]
theorem cI64 (a b:Int):zky a b=some (sgn a b):=by
 unfold zky znn sgn
 simp only[zaf]
 by_cases h1:a<b <;>by_cases h2:b<a <;>simp[h1,h2]
theorem strCmp_cases (a b:List UInt8):(ltS a b/\strCmp a b= -1)∨(¬ltS a b/\ltS b a/\strCmp a b=1)∨(¬ltS a b/\ ¬ltS b a/\strCmp a b=0):=by
 have h1:=TO_str.rng a b trivial trivial
 have h2:=TO_str.anti a b trivial trivial
 have e1:=ltB_iff a b
 have e2:=ltB_iff b a
 unfold ltS
 rw[e1,e2]
 simp only[decide_eq_true_eq]
 omega
theorem cStr (a b:List UInt8):zfp a b=some (strCmp a b):=by
 unfold zfp ziy
 simp only[zaf]
 rcases strCmp_cases a b with⟨h1,h2⟩|⟨h1,h2,h3⟩|⟨h1,h2,h3⟩
 .simp[h1,h2]
 .simp[h1,h2,h3]
 .simp[h1,h2,h3]
theorem rSign (a b:Bool):zka a b=some (if a then -1 else if b then 1 else 0):=by
 unfold zka;cases a <;>cases b <;>rfl
theorem rSignStr (a b:List UInt8):zka (decide (ltS a b)) (decide (ltS b a))=some (strCmp a b):=by
 rw[rSign]
 rcases strCmp_cases a b with⟨h1,h2⟩|⟨h1,h2,h3⟩|⟨h1,h2,h3⟩
 .simp[h1,h2]
 .simp[h1,h2,h3]
 .simp[h1,h2,h3]
theorem rSignInt (a b:Int):zka (decide (a<b)) (decide (b<a))=some (sgn a b):=by
 rw[rSign];unfold sgn
 by_cases h1:a<b <;>by_cases h2:b<a <;>simp[h1,h2]
theorem vSimple (c:UInt8):m_value_simple (c.toNat:Int)=some (decide (c=0∨c=1∨c=2∨c=10)):=by
 unfold m_value_simple
 rw[zbq]
 have key: ∀d:UInt8,((c.toNat:Int)=(d.toNat:Int))↔c=d:=λ d=>⟨λ h=>u8_inj (by omega),λ h=>by rw[h]⟩
 have k0:=key 0
 have k1:=key 1
 have k2:=key 2
 have k10:=key 10
 simp only[show((0:UInt8).toNat:Int)=0 from rfl,show((1:UInt8).toNat:Int)=1 from rfl,show((2:UInt8).toNat:Int)=2 from rfl,show((10:UInt8).toNat:Int)=10 from rfl]at k0 k1 k2 k10
 simp only[k0,k1,k2,k10]
 by_cases h0:c=0 <;>by_cases h1:c=1 <;>by_cases h2:c=2 <;>simp[h0,h1,h2]
theorem vSpan: ∀(k:Nat) (v:List UInt8),Sh k v-> ∀(n:Nat) (r:List UInt8),k≤n->v.length+r.length≤1099511627776->zna n (v++r)=some (v.length:Int)
 |0,v,h,_,_,_,_=>absurd h.pos (by omega)
 |k+1,v,h,n,r,hn,hl=>by
  have hFU:=zeo
  obtain⟨n,rfl⟩: ∃q,n=q+1:=⟨n - 1,by omega⟩
  have hlen:=h.len
  rw[zna,m_value_span_F,zju (by simp;omega)]
  cases h with
  |int k b hb=>simp[gi_0,hb]
  |bool k b hb=>simp[gi_0]
  |name k h l=>simp[gi_0]
  |comp k c h l ps hc hn' hp=>
   obtain⟨n1,n2,n3⟩:=kind_ne hc
   simp only[List.cons_append,gi_0,gi_1,gi_2,n1,n2,n3,if_false,zbq]
   rw[zah (by simp;omega),zah (by simp;omega)]
   have hx:UInt8.toNat h<256:=UInt8.toNat_lt h
   have hy:UInt8.toNat l<256:=UInt8.toNat_lt l
   have htot:ps.flatten.length+3+r.length≤1099511627776:=by simp at hl;simp;omega
   have loop: ∀(m i q at_:Nat),i+m=ps.length->m<q->at_=3+(ps.take i).flatten.length->zns (zna n) (c::h::l::(ps.flatten++r)) (λ x=>some x) q at_ i=some ((3+ps.flatten.length:Nat):Int):=by
    intro m
    induction m with
    |zero=>
     intro i q at_ hi hq ha
     obtain⟨q,rfl⟩: ∃k,q=k+1:=⟨q - 1,by omega⟩
     rw[zns,m_value_span_B2,gi_1,gi_2,i64_step, ←hn',if_neg (by omega)]
     rw[ha,show i=ps.length by omega,List.take_length]
    |succ m ih=>
     intro i q at_ hi hq ha
     obtain⟨q,rfl⟩: ∃k,q=k+1:=⟨q - 1,by omega⟩
     have hip:i<ps.length:=by omega
     have hsplit:ps.flatten=(ps.take i).flatten++(ps[i]++(ps.drop (i+1)).flatten):=by
      conv=>lhs;rw[←List.take_append_drop i ps,List.drop_eq_getElem_cons hip,List.flatten_append,List.flatten_cons]
     have hls:ps.flatten.length=(ps.take i).flatten.length+(ps[i].length+(ps.drop (i+1)).flatten.length):=by rw[hsplit];simp
     rw[zns,m_value_span_B2,gi_1,gi_2,i64_step, ←hn',if_pos (by omega),zah (by simp only[List.length_cons,List.length_append];omega),Int.toNat_natCast]
     have hd:List.drop at_ (c::h::l::(ps.flatten++r))=ps[i]++((ps.drop (i+1)).flatten++r):=by
      rw[ha,show 3+(ps.take i).flatten.length=(ps.take i).flatten.length+3 by omega]
      simp only[List.drop_succ_cons]
      rw[hsplit,List.append_assoc,List.drop_left,List.append_assoc]
     rw[hd,vSpan k ps[i] (hp _ (List.getElem_mem _)) n _ (by omega) (by rw[List.length_append];omega),zaf]
     rw[zbl (by omega)]
     have e:i64 ((at_:Int)+(ps[i].length:Int))=((at_+ps[i].length:Nat):Int):=by rw[zfn (by omega)];omega
     rw[e]
     refine ih (i+1) q (at_+ps[i].length) (by omega) (by omega) ?_
     rw[←List.take_append_getElem hip,List.flatten_append,List.length_append,ha]
     simp;omega
   have:=loop ps.length 0 FU 3 (by omega) (by omega) (by simp)
   rw[show((3:Nat):Int)=3 from rfl,show((0:Nat):Int)=0 from rfl]at this
   rw[this]
   congr 1
   simp;omega
theorem vClip (l:List (List UInt8)):zbp l=some l:=by
 unfold zbp
 first
  |rfl
  |rw[zah (by omega),Int.toNat_natCast,List.take_length]
theorem vParts {k:Nat} {c h l:UInt8} {ps:List (List UInt8)} (hp: ∀p∈ps,Sh k p) (hk:k≤1000) (hl:ps.flatten.length≤1000000000):m_value_parts (c::h::l::ps.flatten)=some ps:=by
 have hFU:=zeo
 unfold m_value_parts
 simp only[zbq,vClip,zaf]
 have hps:ps.length≤ps.flatten.length:=by
  have: ∀qs:List (List UInt8),(∀p∈qs,Sh k p)->qs.length≤qs.flatten.length:=by
   intro qs
   induction qs with
   |nil=>intro _;simp
   |cons q qs ih=>intro h;have h1:=(h q (by simp)).len;have h2:=ih (λ p hp=>h p (by simp[hp]));simp at h2 ⊢;omega
  exact this ps hp
 have loop: ∀(m i q at_:Nat),i+m=ps.length->m<q->at_=3+(ps.take i).flatten.length->zlx (c::h::l::ps.flatten) (λ x=>some x) q (ps.take i) at_=some ps:=by
  intro m
  induction m with
  |zero=>
   intro i q at_ hi hq ha
   obtain⟨q,rfl⟩: ∃k,q=k+1:=⟨q - 1,by omega⟩
   rw[show i=ps.length by omega,List.take_length]at ha⊢
   rw[zlx,m_value_parts_B2,if_neg (by simp only[List.length_cons];omega)]
  |succ m ih=>
   intro i q at_ hi hq ha
   obtain⟨q,rfl⟩: ∃k,q=k+1:=⟨q - 1,by omega⟩
   have hip:i<ps.length:=by omega
   have hsplit:ps.flatten=(ps.take i).flatten++(ps[i]++(ps.drop (i+1)).flatten):=by
    conv=>lhs;rw[←List.take_append_drop i ps,List.drop_eq_getElem_cons hip,List.flatten_append,List.flatten_cons]
   have hls:ps.flatten.length=(ps.take i).flatten.length+(ps[i].length+(ps.drop (i+1)).flatten.length):=by rw[hsplit];simp
   have hpos:=(hp _ (List.getElem_mem hip)).len
   have hall:(c::h::l::ps.flatten).length=ps.flatten.length+3:=rfl
   rw[zlx,m_value_parts_B2,hall,if_pos (by omega),zah (by omega),Int.toNat_natCast]
   have hd:List.drop at_ (c::h::l::ps.flatten)=ps[i]++(ps.drop (i+1)).flatten:=by
    rw[ha,show 3+(ps.take i).flatten.length=(ps.take i).flatten.length+3 by omega]
    simp only[List.drop_succ_cons]
    conv=>lhs;rw[hsplit]
    rw[List.drop_left]
   have hsp:m_value_span (ps[i]++(ps.drop (i+1)).flatten)=some (ps[i].length:Int):=by
    unfold m_value_span
    exact vSpan k ps[i] (hp _ (List.getElem_mem _)) FU _ (by omega) (by omega)
   have e:i64 ((at_:Int)+(ps[i].length:Int))=((at_+ps[i].length:Nat):Int):=by rw[zfn (by omega)];omega
   rw[hd,hsp,zaf,e,zah (by omega),Int.toNat_natCast,show at_+ps[i].length - at_=ps[i].length by omega,List.take_left]
   rw[zah (by simp;omega)]
   rw[List.take_append_getElem hip]
   refine ih (i+1) q (at_+ps[i].length) (by omega) (by omega) ?_
   rw[←List.take_append_getElem hip,List.flatten_append,List.length_append,ha]
   simp;omega
 have:=loop ps.length 0 FU 3 (by omega) (by omega) (by simp)
 rw[show((3:Nat):Int)=3 from rfl,List.take_zero]at this
 exact this
theorem compareFunc_eq (f:List UInt8->List UInt8->Option Int) (c:List UInt8->List UInt8->Int) (a b:List (List UInt8)) (ha:a.length≤1099511627776) (hb:b.length≤1099511627776) (hf: ∀x∈a, ∀y∈b,f x y=some (c x y)):
  zbm a b f=some (lexCmp c a b):=by
 have hFU:=zeo
 unfold zbm
 rw[zbq]
 have loop: ∀(m i n:Nat),i+m=a.length->m<n->i≤b.length->zbg a b f (λ _=>if(List.length a:Int)<(List.length b:Int)then(some (-1))else(some 0)) n i=some (lexCmp c (a.drop i) (b.drop i)):=by
  intro m
  induction m with
  |zero=>
   intro i n hi hn hib
   obtain⟨n,rfl⟩: ∃k,n=k+1:=⟨n - 1,by omega⟩
   rw[zbg,zbk,if_neg (by omega),List.drop_eq_nil_of_le (by omega)]
   by_cases h:(List.length a:Int)<(List.length b:Int)
   .rw[if_pos h,List.drop_eq_getElem_cons (show i<b.length by omega)];rfl
   .rw[if_neg h,List.drop_eq_nil_of_le (show b.length≤i by omega)];rfl
  |succ m ih=>
   intro i n hi hn hib
   obtain⟨n,rfl⟩: ∃k,n=k+1:=⟨n - 1,by omega⟩
   rw[zbg,zbk,if_pos (by omega),zah (by omega),List.drop_eq_getElem_cons (show i<a.length by omega)]
   by_cases h:(List.length b:Int)≤i
   .rw[if_pos h,List.drop_eq_nil_of_le (show b.length≤i by omega)];rfl
   .have hib':i<b.length:=by omega
    rw[if_neg h,zah (by omega),zbv (by omega),zbv hib',hf _ (List.getElem_mem _) _ (List.getElem_mem _),zaf,List.drop_eq_getElem_cons hib',lexCmp,zbl (by omega)]
    by_cases h0:c a[i] b[i]=0
    .simp only[h0,not_true_eq_false,ne_eq,if_false]
     exact ih (i+1) n (by omega) (by omega) (by omega)
    .rw[if_pos h0,if_pos h0]
 have:=loop a.length 0 FU (by omega) (by omega) (by omega)
 rwa [List.drop_zero,List.drop_zero]at this
theorem vCompareS: ∀(k:Nat) (a b:List UInt8),Sh k a->Sh k b->k≤1000->a.length≤1000000000->b.length≤1000000000-> ∀n,k≤n->zil n a b=some (cmpV k a b)
 |0,a,b,ha,_,_,_,_,_,_=>absurd ha.pos (by omega)
 |k+1,a,b,ha,hb,hk,la,lb,n,hn=>by
  obtain⟨n,rfl⟩: ∃q,n=q+1:=⟨n - 1,by omega⟩
  have h1:=ha.len
  have h2:=hb.len
  rw[zil,m_value_compare_F,cmpV]
  by_cases e:a=b
  .simp[e]
  .rw[if_neg e,if_neg e,zju (by omega),zju (by omega),cByte,zaf]
   by_cases e1:gi a 0=gi b 0
   .have e1':sgnB (gi a 0) (gi b 0)=0:=(TO_sgnB.eq _ _ trivial trivial).2 e1
    rw[if_neg (show¬ ¬sgnB (gi a 0) (gi b 0)=0 from λ h=>h e1'),if_neg (show¬(gi a 0≠gi b 0)from λ h=>h e1),zju (by omega)]
    by_cases e2:gi a 0=1
    .simp only[if_pos e2]
     obtain⟨l1,d1⟩:=ha.kind1 e2
     obtain⟨l2,d2⟩:=hb.kind1 (by rw[←e1];exact e2)
     rw[vInteger a (by omega),vInteger b (by omega),zaf,zaf,cI64,zaf,List.take_of_length_le (by simp[l1]),List.take_of_length_le (by simp[l2])]
     rfl
    .simp only[if_neg e2]
     rw[zju (by omega),vSimple,zaf]
     have e0:gi a 0≠0:=by
      cases ha with
      |int k b hb=>simp[gi_0]at e2
      |bool k b hb=>simp[gi_0]
      |name k h l=>simp[gi_0]
      |comp k c h l ps hc hn hp=>rw[gi_0];rintro rfl;simp at hc
     by_cases e3:gi a 0=2∨gi a 0=10
     .rw[if_pos (decide_eq_true (show gi a 0=0∨gi a 0=1∨gi a 0=2∨gi a 0=10 from .inr (.inr e3))),if_pos e3,cStr,zaf]
     .rw[if_neg (show¬(decide (gi a 0=0∨gi a 0=1∨gi a 0=2∨gi a 0=10)=true)from λ h=>(of_decide_eq_true h).elim e0 (λ h=>h.elim e2 e3)),if_neg e3]
      obtain⟨c,x,y,ps,rfl,hn1,hs,hp,_⟩:=ha.kindc e2 e3
      obtain⟨c',x',y',ps',rfl,hn2,hs',hp',_⟩:=hb.kindc (by rw[←e1];exact e2) (by rw[←e1];exact e3)
      have f1:ps.flatten.length≤1000000000:=by simp at la ⊢;omega
      have f2:ps'.flatten.length≤1000000000:=by simp at lb ⊢;omega
      have hmem: ∀{qs:List (List UInt8)} {q:List UInt8},q∈qs->q.length≤qs.flatten.length:=by
       intro qs q hq
       induction qs with
       |nil=>cases hq
       |cons a qs ih=>
        rcases List.mem_cons.1 hq with rfl|hq
        .simp
        .have:=ih hq;simp at this ⊢;omega
      have hx:UInt8.toNat x<256:=UInt8.toNat_lt x
      have hy:UInt8.toNat y<256:=UInt8.toNat_lt y
      have hx':UInt8.toNat x'<256:=UInt8.toNat_lt x'
      have hy':UInt8.toNat y'<256:=UInt8.toNat_lt y'
      rw[vParts hs (by omega) f1,zaf,vParts hs' (by omega) f2,zaf,
       compareFunc_eq (zil n) (cmpV k) ps ps' (by omega) (by omega) (λ p hp q hq=>vCompareS k p q (hs p hp) (hs' q hq) (by omega) (Nat.le_trans (hmem hp) f1) (Nat.le_trans (hmem hq) f2) n (by omega)),zaf,hp,hp']
   .have e1':sgnB (gi a 0) (gi b 0)≠0:=λ h=>e1 ((TO_sgnB.eq _ _ trivial trivial).1 h)
    rw[if_pos (show¬sgnB (gi a 0) (gi b 0)=0 from e1'),if_pos (show gi a 0≠gi b 0 from e1)]
theorem vCompare {k:Nat} {a b:List UInt8} (ha:Sh k a) (hb:Sh k b) (hk:k≤1000) (la:a.length≤1000000000) (lb:b.length≤1000000000):znp a b=some (cmpV k a b):=
 vCompareS k a b ha hb hk la lb FU (by have:=zeo;omega)
end
noncomputable section
attribute [local irreducible] FU
def cmpW (a b:List UInt8):Int:=cmpV 32 a b
theorem cmpW_eq {k:Nat} {a b:List UInt8} (ha:Sh k a) (hb:Sh k b) (hk:k≤32):cmpV k a b=cmpW a b:=(cmpV_le ha hb hk).symm
def ascB:List (List UInt8)->Bool
 |[]=>true
 |[_]=>true
 |x::y::t=>decide (cmpW x y<0) && ascB (y::t)
def evens {α:Type}:List α->List α
 |[]=>[]
 |[x]=>[x]
 |x::_::t=>x::evens t
def betB (v:List UInt8) (lo hi:Int):Bool:=gi v 0 ==1 && (decide (lo≤numV v) && decide (numV v≤hi))
def formedB (c:UInt8) (ps:List (List UInt8)):Bool:=
 if c=3 then decide (2≤ps.length) && decide (ps.length≤8)
 else if c=5 then ascB ps
 else if c=6 then decide (ps.length % 2=0) && ascB (evens ps)
 else if c=7 then decide (1≤ps.length) && (decide (ps.length≤9) && gi (gi ps 0) 0 ==10)
 else if c=8 then decide (1≤ps.length) && (decide (ps.length≤33) && betB (gi ps 0) 0 65535)
 else if c=9 then decide (1≤ps.length) && betB (gi ps 0) 1 21
 else true
inductive IsV:Nat->List UInt8->Prop
 |int (k:Nat) (b:List UInt8) (h:b.length=8):IsV (k+1) (1::b)
 |bool (k:Nat) (b:UInt8) (h:b.toNat≤1):IsV (k+1) [2,b]
 |name (k:Nat) (h l:UInt8):IsV (k+1) [10,h,l]
 |comp (k:Nat) (c h l:UInt8) (ps:List (List UInt8)) (hc:3≤c.toNat/\c.toNat≤9) (hn:ps.length=h.toNat*256+l.toNat) (hp: ∀p∈ps,IsV k p) (hf:formedB c ps=true):IsV (k+1) (c::h::l::ps.flatten)
theorem IsV.sh {k:Nat} {v:List UInt8} (h:IsV k v):Sh k v:=by
 induction h with
 |int k b h=>exact .int _ b h
 |bool k b h=>exact .bool _ b h
 |name k h l=>exact .name _ h l
 |comp k c h l ps hc hn hp hf ih=>exact .comp _ c h l ps hc hn ih
theorem IsV.mono {k:Nat} {v:List UInt8} (h:IsV k v):IsV (k+1) v:=by
 induction h with
 |int k b h=>exact .int _ b h
 |bool k b h=>exact .bool _ b h
 |name k h l=>exact .name _ h l
 |comp k c h l ps hc hn hp hf ih=>exact .comp _ c h l ps hc hn ih hf
theorem IsV.le {k j:Nat} {v:List UInt8} (h:IsV k v) (hj:k≤j):IsV j v:=by
 obtain⟨d,rfl⟩:=Nat.exists_eq_add_of_le hj
 induction d with
 |zero=>exact h
 |succ d ih=>exact(ih (by omega)).mono
theorem evens_get {α:Type}: ∀(l:List α) (i:Nat),(evens l)[i]?=l[2*i]?
 |[],i=>by simp[evens]
 |[x],0=>rfl
 |[x],i+1=>by simp[evens]
 |x::y::t,0=>rfl
 |x::y::t,i+1=>by simp only[evens,List.getElem?_cons_succ];rw[evens_get t i,show 2*(i+1)=2*i+1+1 by omega];simp
theorem evens_len {α:Type}: ∀l:List α,(evens l).length=(l.length+1) / 2
 |[]=>by simp[evens]
 |[x]=>by simp[evens]
 |x::y::t=>by simp only[evens,List.length_cons];rw[evens_len t];omega
theorem evens_mem {α:Type} {x:α}: ∀{l:List α},x∈evens l->x∈l
 |[y],h=>h
 |y::z::t,h=>by
  simp only[evens,List.mem_cons]at h
  rcases h with rfl|h
  .simp
  .simp[evens_mem h]
theorem vAsc (ps:List (List UInt8)) (hl:ps.length≤1000000) (hc: ∀p∈ps, ∀q∈ps,znp p q=some (cmpW p q)):zin ps=some (ascB ps):=by
 have hFU:=zeo
 unfold zin
 rw[zbq]
 have loop: ∀(m i n:Nat),i+m=ps.length->1≤i->m<n->zfu ps (λ _=>some true) n i=some (ascB (ps.drop (i - 1))):=by
  intro m
  induction m with
  |zero=>
   intro i n hi h1 hn
   obtain⟨n,rfl⟩: ∃k,n=k+1:=⟨n - 1,by omega⟩
   rw[zfu,zhm,if_neg (by omega),List.drop_eq_getElem_cons (show i - 1<ps.length by omega),List.drop_eq_nil_of_le (by omega)]
   rfl
  |succ m ih=>
   intro i n hi h1 hn
   obtain⟨n,rfl⟩: ∃k,n=k+1:=⟨n - 1,by omega⟩
   have hip:i<ps.length:=by omega
   have e:ps.drop (i - 1)=ps[i - 1]::ps[i]::ps.drop (i+1):=by
    rw[List.drop_eq_getElem_cons (show i - 1<ps.length by omega),show i - 1+1=i by omega,List.drop_eq_getElem_cons hip]
   have e2:ps.drop (i+1 - 1)=ps[i]::ps.drop (i+1):=by rw[show i+1 - 1=i by omega,List.drop_eq_getElem_cons hip]
   have e3:gi ps ((i:Int) - 1)=ps[i - 1]:=by rw[show(i:Int) - 1=((i - 1:Nat):Int)by omega,zbv (by omega)]
   rw[zfu,zhm,if_pos (by omega),i64_sub1 (by omega),zah (by omega),zah (by omega),e3,zbv hip,hc _ (List.getElem_mem _) _ (List.getElem_mem _),zaf,zbl (by omega),e,ascB]
   by_cases h:cmpW ps[i - 1] ps[i]<0
   .rw[if_neg (by omega),ih (i+1) n (by omega) (by omega) (by omega),e2];simp[h]
   .rw[if_pos (by omega)];simp[h]
 match hps:ps with
 |[]=>
  obtain⟨n,hn⟩:=FU_k 1 (by omega)
  rw[hn,zfu,zhm,if_neg (by simp)];rfl
 |p::t=>
  have:=loop t.length 1 FU (by simp;omega) (by omega) (by simp at hl;omega)
  rw[show((1:Nat):Int)=1 from rfl]at this
  rw[this];rfl
theorem vBetween {k:Nat} {v:List UInt8} (h:Sh k v) (lo hi:Int):m_value_between v lo hi=some (betB v lo hi):=by
 have hl:=h.len
 unfold m_value_between betB
 rw[zbq,zju (by omega)]
 by_cases h1:gi v 0=1
 .obtain⟨l1,_⟩:=h.kind1 h1
  rw[if_pos h1,vInteger v (by omega),zaf,zaf,List.take_of_length_le (by simp[l1])]
  have:i64 (beNat (v.drop 1):Int)=numV v:=rfl
  rw[this]
  by_cases h2:lo≤numV v <;>simp[h1,h2]
 .rw[if_neg h1];simp[h1]
theorem zml (c d:UInt8):((c.toNat:Int)=(d.toNat:Int))↔c=d:=⟨λ h=>u8_inj (by omega),λ h=>by rw[h]⟩
theorem toNat3 (c:UInt8):((c.toNat:Int)=3)↔c=3:=zml c 3
theorem toNat5 (c:UInt8):((c.toNat:Int)=5)↔c=5:=zml c 5
theorem toNat6 (c:UInt8):((c.toNat:Int)=6)↔c=6:=zml c 6
theorem toNat7 (c:UInt8):((c.toNat:Int)=7)↔c=7:=zml c 7
theorem toNat8 (c:UInt8):((c.toNat:Int)=8)↔c=8:=zml c 8
theorem toNat9 (c:UInt8):((c.toNat:Int)=9)↔c=9:=zml c 9
theorem toNat1 (c:UInt8):((c.toNat:Int)=1)↔c=1:=zml c 1
theorem toNat2 (c:UInt8):((c.toNat:Int)=2)↔c=2:=zml c 2
theorem toNat10 (c:UInt8):((c.toNat:Int)=10)↔c=10:=zml c 10
theorem tmod2 (n:Nat):(Int.tmod (n:Int) 2=0)↔n % 2=0:=by
 have:Int.tmod (n:Int) 2=((n % 2:Nat):Int):=rfl
 rw[this];omega
theorem vFormed {k:Nat} (c:UInt8) (ps:List (List UInt8)) (hp: ∀p∈ps,Sh k p) (hk:k≤32) (hl:ps.length≤100000) (hs:ps.flatten.length≤1000000000):m_value_formed (c.toNat:Int) ps=some (formedB c ps):=by
 have hFU:=zeo
 have hmem: ∀{qs:List (List UInt8)} {q:List UInt8},q∈qs->q.length≤qs.flatten.length:=by
  intro qs q hq
  induction qs with
  |nil=>cases hq
  |cons a qs ih=>
   rcases List.mem_cons.1 hq with rfl|hq
   .simp
   .have:=ih hq;simp at this ⊢;omega
 have hc: ∀p∈ps, ∀q∈ps,znp p q=some (cmpW p q):=λ p h q h'=>by
  rw[vCompare (hp p h) (hp q h') (by omega) (Nat.le_trans (hmem h) hs) (Nat.le_trans (hmem h') hs),cmpW_eq (hp p h) (hp q h') hk]
 have h0:1≤ps.length->gi ps 0∈ps:=λ h=>by
  rw[show(0:Int)=((0:Nat):Int)from rfl,zbv (by omega)];exact List.getElem_mem _
 unfold m_value_formed formedB
 simp only[zbq,toNat3,toNat5,toNat6,toNat7,toNat8,toNat9]
 by_cases h3:c=3
 .simp only[h3,if_true]
  by_cases h:(2:Int)≤(ps.length:Int)
  .rw[if_pos h]
   by_cases h8:(ps.length:Int)≤8
   .simp[show 2≤ps.length by omega,show ps.length≤8 by omega,h8]
   .simp[show¬ps.length≤8 by omega,h8]
  .rw[if_neg h];simp;omega
 .simp only[h3,if_false]
  by_cases h5:c=5
  .simp only[h5,if_true,vAsc ps (by omega) hc,zaf]
  .simp only[h5,if_false]
   by_cases h6:c=6
   .simp only[h6,if_true]
    have loop: ∀(m i n:Nat),i+m=ps.length->m<n->i % 2=0->zkr ps (λ b=>if(Int.tmod (List.length ps:Int) 2)=0 then(bnd1 (zin b) (λ y67=>some y67))else some false) n (evens (ps.take i)) i=some (decide (ps.length % 2=0) && ascB (evens ps)):=by
     intro m
     induction m using Nat.strongRecOn with
     |_ m ih=>
      intro i n hi hn h2
      obtain⟨n,rfl⟩: ∃k,n=k+1:=⟨n - 1,by omega⟩
      rw[zkr,znj]
      by_cases hm:m=0
      .rw[if_neg (by omega),show i=ps.length by omega,List.take_length]
       simp only[tmod2]
       by_cases he:ps.length % 2=0
       .rw[if_pos he,vAsc (evens ps) (by rw[evens_len];omega) (λ p h q h'=>hc p (evens_mem h) q (evens_mem h')),zaf];simp[he]
       .rw[if_neg he];simp[he]
      .have hip:i<ps.length:=by omega
       rw[if_pos (by omega),zah (by omega),zah (by rw[evens_len];simp;omega),zbv hip]
       have e:i64 ((i:Int)+2)=((i+2:Nat):Int):=by rw[zfn (by omega)];omega
       rw[e]
       have ee:evens (ps.take i)++[ps[i]]=evens (ps.take (i+2)):=by
        apply List.ext_getElem?
        intro j
        rw[evens_get,List.getElem?_append,evens_len]
        simp only[List.length_take]
        by_cases hj:j<(min i ps.length+1) / 2
        .rw[if_pos hj,evens_get,List.getElem?_take_of_lt (by omega),List.getElem?_take_of_lt (by omega)]
        .rw[if_neg hj]
         by_cases hj2:2*j=i
         .rw[show j - (min i ps.length+1) / 2=0 by omega,List.getElem?_take_of_lt (by omega),hj2,List.getElem?_eq_getElem hip];rfl
         .rw[List.getElem?_eq_none (by simp;omega),List.getElem?_eq_none (by simp;omega)]
       rw[ee]
       by_cases hm1:m=1
       .-- the last one
        obtain⟨n,rfl⟩: ∃k,n=k+1:=⟨n - 1,by omega⟩
        rw[zkr,znj,if_neg (by omega),List.take_of_length_le (by omega)]
        simp only[tmod2]
        rw[if_neg (by omega)]
        simp;omega
       .exact ih (m - 2) (by omega) (i+2) n (by omega) (by omega) (by omega)
    have:=loop ps.length 0 FU (by omega) (by omega) (by omega)
    rw[show((0:Nat):Int)=0 from rfl,List.take_zero]at this
    exact this
   .simp only[h6,if_false]
    by_cases h7:c=7
    .simp only[h7,if_true]
     by_cases h1:(1:Int)≤(ps.length:Int)
     .rw[if_pos h1]
      by_cases h9:(ps.length:Int)≤9
      .have hm:=(hp _ (h0 (by omega))).len
       rw[if_pos h9,zah (by omega),zah (by omega)]
       simp only[show 1≤ps.length by omega,show ps.length≤9 by omega,decide_true,Bool.true_and]
       rfl
      .rw[if_neg h9];simp;omega
     .rw[if_neg h1];simp;omega
    .simp only[h7,if_false]
     by_cases h8:c=8
     .simp only[h8,if_true]
      by_cases h1:(1:Int)≤(ps.length:Int)
      .rw[if_pos h1]
       by_cases h9:(ps.length:Int)≤33
       .rw[if_pos h9,zah (by omega),vBetween (hp _ (h0 (by omega))),zaf]
        simp[show 1≤ps.length by omega,show ps.length≤33 by omega]
       .rw[if_neg h9];simp;omega
      .rw[if_neg h1];simp;omega
     .simp only[h8,if_false]
      by_cases h9:c=9
      .simp only[h9,if_true]
       by_cases h1:(1:Int)≤(ps.length:Int)
       .rw[if_pos h1,zah (by omega),vBetween (hp _ (h0 (by omega))),zaf]
        simp[show 1≤ps.length by omega]
       .rw[if_neg h1];simp;omega
      .simp only[h9,if_false]
end
noncomputable section
attribute [local irreducible] FU
theorem flat_mem_len {qs:List (List UInt8)} {q:List UInt8} (hq:q∈qs):q.length≤qs.flatten.length:=by
 induction qs with
 |nil=>cases hq
 |cons a qs ih=>
  rcases List.mem_cons.1 hq with rfl|hq
  .simp
  .have:=ih hq;simp at this ⊢;omega
def At (k:Nat) (s:List UInt8) (o:Option Int):Prop:=(∃v r,s=v++r/\IsV k v/\o=some (v.length:Int))∨((∀v r,s=v++r-> ¬IsV k v)/\o=some 0)
def Row (k m:Nat) (u:List UInt8) (qs:List (List UInt8)) (r:List UInt8):Prop:=qs.length=m/\(∀q∈qs,IsV k q)/\u=qs.flatten++r
theorem Row.step {k m:Nat} {u v w:List UInt8} (hv:IsV k v) (hu:u=v++w) (qs:List (List UInt8)) (r:List UInt8) (h:Row k (m+1) u qs r): ∃qs',qs=v::qs'/\Row k m w qs' r:=by
 obtain⟨h1,h2,h3⟩:=h
 match qs,h1 with
 |q::qs',h1=>
  rw[hu,List.flatten_cons,List.append_assoc]at h3
  obtain⟨e1,e2⟩:=hv.sh.uniq (h2 q (by simp)).sh _ _ h3
  exact⟨qs',by rw[e1],by simpa using h1,λ x hx=>h2 x (by simp[hx]),e2⟩
theorem noV_small {k:Nat} {s:List UInt8} (h:s.length<2): ∀v r,s=v++r-> ¬IsV k v:=λ v r e hv=>by
 have:=hv.sh.len
 rw[e,List.length_append]at h;omega
theorem vLength: ∀(k:Nat),k≤32-> ∀(n:Nat),k<n-> ∀(s:List UInt8),s.length≤1000000000->At k s (zfl n s ((33:Int) - k))
 |0,_,n,hn,s,hs=>by
  obtain⟨n,rfl⟩: ∃q,n=q+1:=⟨n - 1,by omega⟩
  refine .inr ⟨λ v r _ hv=>by have:=hv.sh.pos;omega, ?_⟩
  rw[zfl,m_value_length_F,zbq]
  by_cases h:s=[]
  .rw[if_pos h];rfl
  .rw[if_neg h];rfl
 |k+1,hk,n,hn,s,hs=>by
  have hFU:=zeo
  obtain⟨n,rfl⟩: ∃q,n=q+1:=⟨n - 1,by omega⟩
  rw[zfl,m_value_length_F]
  simp only[zbq]
  by_cases h0:s=[]
  .exact .inr ⟨noV_small (by rw[h0];simp),by rw[if_pos h0];rfl⟩
  obtain⟨c,t,rfl⟩: ∃c t,s=c::t:=by cases s with|nil=>exact absurd rfl h0|cons c t=>exact⟨c,t,rfl⟩
  have hd:decide ((32:Int)<33 - ((k+1:Nat):Int))=false:=by simp;omega
  rw[if_neg h0,hd,zju (by simp)]
  simp only[Bool.false_eq_true,if_false,gi_0]
  have kinds: ∀v r,c::t=v++r->IsV (k+1) v->(c=1/\8≤t.length/\v.length=9)∨(c=2/\1≤t.length/\(gi (c::t) 1).toNat≤1/\v.length=2)∨(c=10/\2≤t.length/\v.length=3)∨
    (∃h l u ps,(3≤c.toNat/\c.toNat≤9)/\t=h::l::u/\Row k (h.toNat*256+l.toNat) u ps r/\formedB c ps=true/\v=c::h::l::ps.flatten):=by
   intro v r e hv
   cases hv with
   |int k b hb=>
    simp only[List.cons_append,List.cons.injEq]at e
    refine .inl ⟨e.1, ?_,by simp[hb]⟩
    rw[e.2];simp;omega
   |bool k b hb=>
    simp only[List.cons_append,List.nil_append,List.cons.injEq]at e
    refine .inr (.inl ⟨e.1, ?_, ?_,rfl⟩)
    .rw[e.2];simp
    .rw[e.2,gi_1];exact hb
   |name k h l=>
    simp only[List.cons_append,List.nil_append,List.cons.injEq]at e
    refine .inr (.inr (.inl ⟨e.1, ?_,rfl⟩))
    rw[e.2];simp
   |comp k c' h l ps hc hn hp hf=>
    simp only[List.cons_append,List.cons.injEq]at e
    obtain⟨rfl,e⟩:=e
    exact .inr (.inr (.inr ⟨h,l,ps.flatten++r,ps,hc,e,⟨hn,hp,rfl⟩,hf,rfl⟩))
  by_cases h1:c=1
  .subst h1
   simp only[if_true]
   by_cases hl:(((1:UInt8)::t).length:Int)<9
   .rw[if_pos hl]
    refine .inr ⟨λ v r e hv=> ?_,rfl⟩
    rcases kinds v r e hv with⟨_,h,_⟩|⟨h,_⟩|⟨h,_⟩|⟨_,_,_,_,h,_⟩
    .simp at hl;omega
    .simp at h
    .simp at h
    .simp at h
   .rw[if_neg hl]
    refine .inl ⟨1::t.take 8,t.drop 8,by simp, .int k _ (by simp at hl ⊢;omega), ?_⟩
    simp at hl
    simp;omega
  .simp only[h1,if_false]
   by_cases h2:c=2
   .subst h2
    simp only[if_true]
    have hn2: ∀v r,(2:UInt8)::t=v++r->IsV (k+1) v->1≤t.length/\(gi ((2:UInt8)::t) 1).toNat≤1:=by
     intro v r e hv
     rcases kinds v r e hv with⟨h,_⟩|⟨_,h,h',_⟩|⟨h,_⟩|⟨_,_,_,_,h,_⟩
     .simp at h
     .exact⟨h,h'⟩
     .simp at h
     .simp at h
    by_cases hl:(((2:UInt8)::t).length:Int)<2
    .rw[if_pos hl]
     exact .inr ⟨noV_small (by omega),rfl⟩
    .rw[if_neg hl,zah (by omega)]
     by_cases hb:1<gi ((2:UInt8)::t) 1
     .refine .inr ⟨λ v r e hv=> ?_,by simp[hb]⟩
      have:=(hn2 v r e hv).2
      rw[UInt8.lt_iff_toNat_lt]at hb
      simp at hb;omega
     .obtain⟨b,u,rfl⟩: ∃b u,t=b::u:=by cases t with|nil=>simp at hl|cons b u=>exact⟨b,u,rfl⟩
      rw[gi_1]at hb
      refine .inl ⟨[2,b],u,rfl, .bool k b ?_, ?_⟩
      .rw[UInt8.lt_iff_toNat_lt]at hb;simp at hb;omega
      .simp[hb,gi_1];omega
   .simp only[h2,if_false]
    by_cases h10:c=10
    .subst h10
     simp only[if_true]
     by_cases hl:(((10:UInt8)::t).length:Int)<3
     .rw[if_pos hl]
      refine .inr ⟨λ v r e hv=> ?_,rfl⟩
      rcases kinds v r e hv with⟨h,_⟩|⟨h,_⟩|⟨_,h,_⟩|⟨_,_,_,_,h,_⟩
      .simp at h
      .simp at h
      .simp at hl;omega
      .simp at h
     .rw[if_neg hl]
      obtain⟨x,y,u,rfl⟩: ∃x y u,t=x::y::u:=by
       cases t with
       |nil=>simp at hl
       |cons x t=>cases t with
        |nil=>simp at hl
        |cons y u=>exact⟨x,y,u,rfl⟩
      exact .inl ⟨[10,x,y],u,rfl, .name k x y,rfl⟩
    .simp only[h10,if_false]
     by_cases hc:3≤c.toNat/\c.toNat≤9
     .-- a compound value
      have this:c=3∨c=4∨c=5∨c=6∨c=7∨c=8∨c=9:=by
       have h: ∀d:UInt8,c.toNat=d.toNat->c=d:=λ d h=>u8_inj h
       have e:c.toNat=3∨c.toNat=4∨c.toNat=5∨c.toNat=6∨c.toNat=7∨c.toNat=8∨c.toNat=9:=by omega
       rcases e with e|e|e|e|e|e|e
       .exact .inl (h 3 e)
       .exact .inr (.inl (h 4 e))
       .exact .inr (.inr (.inl (h 5 e)))
       .exact .inr (.inr (.inr (.inl (h 6 e))))
       .exact .inr (.inr (.inr (.inr (.inl (h 7 e)))))
       .exact .inr (.inr (.inr (.inr (.inr (.inl (h 8 e))))))
       .exact .inr (.inr (.inr (.inr (.inr (.inr (h 9 e))))))
      suffices hmain:At (k+1) (c::t) (bnd1 (m_value_long (zfl n) (c::t) (33 - ((k+1:Nat):Int))) (λ y24=>some y24))by
       rcases this with rfl|rfl|rfl|rfl|rfl|rfl|rfl <;>exact hmain
      clear this
      unfold m_value_long
      have kc: ∀v r,c::t=v++r->IsV (k+1) v-> ∃h l u ps,t=h::l::u/\Row k (h.toNat*256+l.toNat) u ps r/\formedB c ps=true/\v=c::h::l::ps.flatten:=by
       intro v r e hv
       rcases kinds v r e hv with⟨h,_⟩|⟨h,_⟩|⟨h,_⟩|⟨h,l,u,ps,_,h'⟩
       .exact absurd h h1
       .exact absurd h h2
       .exact absurd h h10
       .exact⟨h,l,u,ps,h'⟩
      by_cases hl:((c::t).length:Int)<3
      .rw[if_pos hl,zaf]
       refine .inr ⟨λ v r e hv=> ?_,rfl⟩
       obtain⟨h,l,u,ps,rfl,_⟩:=kc v r e hv
       simp at hl;omega
      .rw[if_neg hl]
       obtain⟨h,l,u,rfl⟩: ∃x y u,t=x::y::u:=by
        cases t with
        |nil=>simp at hl
        |cons x t=>cases t with
         |nil=>simp at hl
         |cons y u=>exact⟨x,y,u,rfl⟩
       have hlen:(c::h::l::u).length=u.length+3:=rfl
       simp only[zbq,gi_0,hlen]
       rw[zah (by omega),zah (by omega)]
       have hx:UInt8.toNat h<256:=UInt8.toNat_lt h
       have hy:UInt8.toNat l<256:=UInt8.toNat_lt l
       have e33:i64 ((33:Int) - ((k+1:Nat):Int)+1)=33 - (k:Int):=by rw[zfn (by omega)];omega
       have loop: ∀(K:Int->List (List UInt8)->Option Int) (m i q:Nat) (ps':List (List UInt8)) (u':List UInt8),i+m=h.toNat*256+l.toNat->m<q->ps'.length=i->(∀p∈ps',IsV k p)->u=ps'.flatten++u'->
         (∃qs r,Row k m u' qs r/\zld (zfl n) (c::h::l::u) (33 - ((k+1:Nat):Int)) K q ((3+ps'.flatten.length:Nat):Int) ps' i=K ((3+(ps'++qs).flatten.length:Nat):Int) (ps'++qs))∨
         ((∀qs r, ¬Row k m u' qs r)/\zld (zfl n) (c::h::l::u) (33 - ((k+1:Nat):Int)) K q ((3+ps'.flatten.length:Nat):Int) ps' i=some 0):=by
        intro K m
        induction m with
        |zero=>
         intro i q ps' u' hi hq hl' hp' hu
         obtain⟨q,rfl⟩: ∃k,q=k+1:=⟨q - 1,by omega⟩
         refine .inl ⟨[],u',⟨rfl,by simp,by simp⟩, ?_⟩
         rw[zld,m_value_long_B2,gi_1,gi_2,i64_step,if_neg (by omega),List.append_nil]
        |succ m ih=>
         intro i q ps' u' hi hq hl' hp' hu
         obtain⟨q,rfl⟩: ∃k,q=k+1:=⟨q - 1,by omega⟩
         have hul:u.length=ps'.flatten.length+u'.length:=by rw[hu];simp
         have hsl:u.length+3≤1000000000:=by simpa using hs
         have hdrop:List.drop (3+ps'.flatten.length) (c::h::l::u)=u':=by
          rw[show 3+ps'.flatten.length=ps'.flatten.length+3 by omega]
          simp only[List.drop_succ_cons]
          rw[hu,List.drop_left]
         rw[zld,m_value_long_B2,gi_1,gi_2,i64_step,if_pos (by omega),hlen,zah (by omega),Int.toNat_natCast,hdrop,e33]
         rcases vLength k (by omega) n (by omega) u' (by omega)with⟨v,w,hv1,hv2,hv3⟩|⟨hno,h0'⟩
         .have hvl:=hv2.sh.len
          have hw:u'.length=v.length+w.length:=by rw[hv1];simp
          have e1:i64 (((3+ps'.flatten.length:Nat):Int)+(v.length:Int))=((3+(ps'++[v]).flatten.length:Nat):Int):=by rw[zfn (by omega)];simp;omega
          have e2:3+(ps'++[v]).flatten.length=3+ps'.flatten.length+v.length:=by simp;omega
          have e3:List.take v.length u'=v:=by rw[hv1,List.take_left]
          rw[hv3,zaf,if_neg (by omega),e1,zah (by omega),Int.toNat_natCast,show 3+(ps'++[v]).flatten.length - (3+ps'.flatten.length)=v.length by omega,e3,zah (by simp;omega),zbl (by omega)]
          rcases ih (i+1) q (ps'++[v]) w (by omega) (by omega) (by simp[hl']) (λ p hp=>by
           rcases List.mem_append.1 hp with h|h
           .exact hp' p h
           .rw[List.mem_singleton.1 h];exact hv2) (by rw[hu,hv1];simp)with⟨qs,r,hr,he⟩|⟨hno,he⟩
          .refine .inl ⟨v::qs,r,⟨by simp[hr.1],λ x hx=> ?_,by rw[hv1,hr.2.2];simp⟩, ?_⟩
           .rcases List.mem_cons.1 hx with rfl|hx
            .exact hv2
            .exact hr.2.1 x hx
           .rw[he];simp
          .refine .inr ⟨λ qs r hr=> ?_,he⟩
           obtain⟨qs',_,hr'⟩:=Row.step hv2 hv1 qs r hr
           exact hno qs' r hr'
         .rw[h0',zaf,if_pos rfl]
          refine .inr ⟨λ qs r hr=> ?_,rfl⟩
          obtain⟨h1',h2',h3'⟩:=hr
          match qs,h1' with
          |x::qs',_=>exact hno x (qs'.flatten++r) (by rw[h3'];simp) (h2' x (by simp))
       rcases loop (λ f g=>need ((0:Int)≤0/\0<((u.length+3:Nat):Int)) (bnd1 (m_value_formed (c.toNat:Int) g) (λ y38=>if !y38 then some 0 else some f))) (h.toNat*256+l.toNat) 0 FU [] u (by omega) (by omega) rfl (by simp) rfl with⟨qs,r,hr,he⟩|⟨hno,he⟩
       .rw[show((3+([]:List (List UInt8)).flatten.length:Nat):Int)=3 from rfl,show((0:Nat):Int)=0 from rfl]at he
        have hsl:u.length+3≤1000000000:=by simpa using hs
        have hql:u.length=qs.flatten.length+r.length:=by rw[hr.2.2];simp
        rw[he,List.nil_append,zah (by omega),vFormed (k:=k) c qs (λ p hp=>(hr.2.1 p hp).sh) (by omega) (by rw[hr.1];omega) (by omega),zaf]
        cases hf:formedB c qs with
        |true=>
         refine .inl ⟨c::h::l::qs.flatten,r,by rw[hr.2.2];simp, .comp k c h l qs hc hr.1 hr.2.1 hf, ?_⟩
         simp only[Bool.not_true,Bool.false_eq_true,if_false,zaf]
         congr 1
         simp only[List.length_cons];omega
        |false=>
         refine .inr ⟨λ v r' e hv=> ?_,by simp[zaf]⟩
         obtain⟨h',l',u',ps,e',hr',hf',_⟩:=kc v r' e hv
         simp only[List.cons.injEq]at e'
         obtain⟨rfl,rfl,rfl⟩:=e'
         have:=(Sh.flat (λ p hp=>(hr.2.1 p hp).sh) (λ p hp=>(hr'.2.1 p hp).sh) (by rw[hr.1,hr'.1]) (by rw[←hr.2.2];exact hr'.2.2)).1
         rw[this,hf']at hf;cases hf
       .rw[show((3+([]:List (List UInt8)).flatten.length:Nat):Int)=3 from rfl,show((0:Nat):Int)=0 from rfl]at he
        rw[he,zaf]
        refine .inr ⟨λ v r' e hv=> ?_,rfl⟩
        obtain⟨h',l',u',ps,e',hr',_⟩:=kc v r' e hv
        simp only[List.cons.injEq]at e'
        obtain⟨rfl,rfl,rfl⟩:=e'
        exact hno ps r' hr'
     .-- no kind
      have hne: ∀d:UInt8,3≤d.toNat->d.toNat≤9->c≠d:=λ d h h' e=>hc (by rw[e];exact⟨h,h'⟩)
      refine .inr ⟨λ v r e hv=> ?_, ?_⟩
      .rcases kinds v r e hv with⟨h,_⟩|⟨h,_⟩|⟨h,_⟩|⟨_,_,_,_,h,_⟩
       .exact h1 h
       .exact h2 h
       .exact h10 h
       .exact hc h
      .have n3:=hne 3 (by decide) (by decide)
       have n4:=hne 4 (by decide) (by decide)
       have n5:=hne 5 (by decide) (by decide)
       have n6:=hne 6 (by decide) (by decide)
       have n7:=hne 7 (by decide) (by decide)
       have n8:=hne 8 (by decide) (by decide)
       have n9:=hne 9 (by decide) (by decide)
       simp only[n3,n4,n5,n6,n7,n8,n9,if_false,decide_false,Bool.false_eq_true]
       rw[if_neg (by simp;omega)]
end
noncomputable section
attribute [local irreducible] FU
def prt (v:List UInt8):List (List UInt8):=if gi v 0=1∨gi v 0=2∨gi v 0=10 then[]else partsV 40 v
theorem prt_comp {k:Nat} {c h l:UInt8} {ps:List (List UInt8)} (hc:3≤c.toNat/\c.toNat≤9) (hn:ps.length=h.toNat*256+l.toNat) (hp: ∀p∈ps,Sh k p) (hk:k≤40):prt (c::h::l::ps.flatten)=ps:=by
 obtain⟨n1,n2,n3⟩:=kind_ne hc
 unfold prt
 rw[gi_0,if_neg (λ h=>h.elim n1 (λ h=>h.elim n2 n3))]
 exact partsV_eq hn (λ p h=>(hp p h).le hk)
theorem rWalk0: ∀(k:Nat),k≤40-> ∀(v:List UInt8),Sh k v-> ∀(n:Nat) (r:List UInt8),k≤n->v.length+r.length≤1000000000-> ∃d,(zbt n).1 (v++r) (k:Int) false=some ((v.length:Int),prt v,d)
 |0,_,v,h,_,_,_,_=>absurd h.pos (by omega)
 |k+1,hk,v,h,n,r,hn,hl=>by
  have hFU:=zeo
  obtain⟨n,rfl⟩: ∃q,n=q+1:=⟨n - 1,by omega⟩
  have hlen:=h.len
  rw[zbt]
  show∃d,zkm (zbt n).1 (zbt n).2 (v++r) ((k+1:Nat):Int) false=_
  rw[zkm]
  simp only[zbq,decide_eq_true_eq]
  rw[if_neg (by simp;omega),if_neg (by omega),zju (by simp;omega)]
  simp only[Bool.false_eq_true,if_false,toNat1,toNat2,toNat10]
  cases h with
  |int k b hb=>
   refine⟨1, ?_⟩
   rw[if_pos (show gi (1::b++r) 0=1 from rfl),if_neg (by simp;omega)]
   simp[prt,gi_0,hb]
  |bool k b hb=>
   have: ¬1<b:=by rw[UInt8.lt_iff_toNat_lt];simp;omega
   refine⟨1, ?_⟩
   rw[if_neg (show¬gi ([2,b]++r) 0=1 from(by decide: ¬(2:UInt8)=1)),if_pos (show gi ([2,b]++r) 0=2 from rfl),zah (by simp;omega),if_neg (show¬1<gi ([2,b]++r) 1 from this)]
   simp[prt,gi_0]
  |name k h l=>
   refine⟨1, ?_⟩
   have g:gi ([10,h,l]++r) 0=10:=rfl
   rw[if_neg (by rw[g];decide),if_neg (by rw[g];decide),if_neg (by simp;omega),if_neg (by rw[g];decide),if_neg (by rw[g];decide),if_pos g]
   simp[prt,gi_0]
  |comp k c h l ps hc hn' hp=>
   obtain⟨n1,n2,n3⟩:=kind_ne hc
   have hlen3:(c::h::l::(ps.flatten++r)).length=ps.flatten.length+r.length+3:=by simp
   have g:gi (c::h::l::ps.flatten++r) 0=c:=rfl
   rw[if_neg (by rw[g];exact n1),if_neg (by rw[g];exact n2),if_neg (by simp;omega),if_neg (by rw[g];omega),if_neg (by rw[g];omega),if_neg (by rw[g];exact n3)]
   simp only[List.cons_append,hlen3]
   rw[zah (by omega),zah (by omega)]
   have htot:ps.flatten.length+3+r.length≤1000000000:=by simp at hl;simp;omega
   have hx:UInt8.toNat h<256:=UInt8.toNat_lt h
   have hy:UInt8.toNat l<256:=UInt8.toNat_lt l
   have ek:i64 (((k+1:Nat):Int) - 1)=(k:Int):=by rw[zfn (by omega)];omega
   have loop: ∀(K:Int->Int->List (List UInt8)->Option (Int×List (List UInt8)×Int)) (m i q at_:Nat) (x12:Int),i+m=ps.length->m<q->at_=3+(ps.take i).flatten.length-> ∃d,zgu (zbt n).1 (c::h::l::(ps.flatten++r)) ((k+1:Nat):Int) false K q at_ x12 (ps.take i) i=K ((3+ps.flatten.length:Nat):Int) d ps:=by
    intro K m
    induction m with
    |zero=>
     intro i q at_ x12 hi hq ha
     obtain⟨q,rfl⟩: ∃k,q=k+1:=⟨q - 1,by omega⟩
     refine⟨x12, ?_⟩
     rw[zgu,znb,gi_1,gi_2,i64_step, ←hn',if_neg (by omega)]
     rw[ha,show i=ps.length by omega,List.take_length]
    |succ m ih=>
     intro i q at_ x12 hi hq ha
     obtain⟨q,rfl⟩: ∃k,q=k+1:=⟨q - 1,by omega⟩
     have hip:i<ps.length:=by omega
     have hsplit:ps.flatten=(ps.take i).flatten++(ps[i]++(ps.drop (i+1)).flatten):=by
      conv=>lhs;rw[←List.take_append_drop i ps,List.drop_eq_getElem_cons hip,List.flatten_append,List.flatten_cons]
     have hls:ps.flatten.length=(ps.take i).flatten.length+(ps[i].length+(ps.drop (i+1)).flatten.length):=by rw[hsplit];simp
     have hpos:=(hp _ (List.getElem_mem hip)).len
     rw[zgu,znb,gi_1,gi_2,i64_step, ←hn',if_pos (by omega),hlen3,zah (by omega),Int.toNat_natCast,ek]
     have hdr:List.drop at_ (c::h::l::(ps.flatten++r))=ps[i]++((ps.drop (i+1)).flatten++r):=by
      rw[ha,show 3+(ps.take i).flatten.length=(ps.take i).flatten.length+3 by omega]
      simp only[List.drop_succ_cons]
      rw[hsplit,List.append_assoc,List.drop_left,List.append_assoc]
     obtain⟨d,hd⟩:=rWalk0 k (by omega) ps[i] (hp _ (List.getElem_mem _)) n ((ps.drop (i+1)).flatten++r) (by omega) (by rw[List.length_append];omega)
     have e:i64 ((at_:Int)+(ps[i].length:Int))=((at_+ps[i].length:Nat):Int):=by rw[zfn (by omega)];omega
     rw[hdr,hd,zaf]
     simp only[]
     rw[if_neg (by omega),e,zah (by omega),Int.toNat_natCast,show at_+ps[i].length - at_=ps[i].length by omega,List.take_left,zah (by simp;omega),zbl (by omega),List.take_append_getElem hip]
     refine ih (i+1) q (at_+ps[i].length) _ (by omega) (by omega) ?_
     rw[←List.take_append_getElem hip,List.flatten_append,List.length_append,ha]
     simp;omega
   obtain⟨d,hd⟩:=loop (λ a f j=>some (a,j,i64 (f+1))) ps.length 0 FU 3 0 (by omega) (by omega) (by simp)
   rw[show((3:Nat):Int)=3 from rfl,show((0:Nat):Int)=0 from rfl,List.take_zero]at hd
   rw[hd]
   refine⟨i64 (d+1), ?_⟩
   rw[prt_comp hc hn' hp (by omega)]
   congr 2
   simp;omega
theorem rOrderS: ∀(k:Nat) (a b:List UInt8),Sh k a->Sh k b->k≤32->a.length≤100000000->b.length≤100000000-> ∀n,k+33≤n->(zbt n).2 a b=some (cmpV k a b)
 |0,a,b,ha,_,_,_,_,_,_=>absurd ha.pos (by omega)
 |k+1,a,b,ha,hb,hk,la,lb,n,hn=>by
  have hFU:=zeo
  obtain⟨n,rfl⟩: ∃q,n=q+1:=⟨n - 1,by omega⟩
  have h1:=ha.len
  have h2:=hb.len
  rw[zbt]
  show m_ref9_order_F (zbt n).1 (zbt n).2 a b=_
  rw[m_ref9_order_F,cmpV]
  by_cases e:a=b
  .simp[e]
  .rw[if_neg e,if_neg e,zju (by omega),zju (by omega)]
   by_cases e1:gi a 0=gi b 0
   .rw[if_neg (show¬ ¬gi a 0=gi b 0 from λ h=>h e1),if_neg (show¬(gi a 0≠gi b 0)from λ h=>h e1),zju (by omega)]
    simp only[toNat1,toNat2,toNat10]
    by_cases e2:gi a 0=1
    .simp only[if_pos e2]
     obtain⟨l1,d1⟩:=ha.kind1 e2
     obtain⟨l2,d2⟩:=hb.kind1 (by rw[←e1];exact e2)
     rw[zah (by omega),show Int.toNat 1=1 from rfl,rNumber (a.drop 1) (by simp[l1]),zaf,zah (by omega),rNumber (b.drop 1) (by simp[l2]),zaf,rSignInt,zaf,List.take_of_length_le (by simp[l1]),List.take_of_length_le (by simp[l2])]
     rfl
    .simp only[if_neg e2,zbq]
     rw[zju (by omega)]
     by_cases e3:gi a 0=2∨gi a 0=10
     .rw[if_pos e3]
      by_cases e4:gi a 0=2
      .simp only[if_pos e4,if_true,rSignStr,zaf]
      .have e5:gi a 0=10:=e3.resolve_left e4
       simp only[if_neg e4,decide_eq_true e5,if_true,rSignStr,zaf]
       rw[zju (by omega)]
     .rw[if_neg e3]
      have e4: ¬gi a 0=2:=λ h=>e3 (.inl h)
      have e5: ¬gi a 0=10:=λ h=>e3 (.inr h)
      simp only[if_neg e4,decide_eq_false e5,Bool.false_eq_true,if_false]
      rw[zju (by omega)]
      obtain⟨d1,w1⟩:=rWalk0 32 (by omega) a (ha.le hk) n [] (by omega) (by simp;omega)
      obtain⟨d2,w2⟩:=rWalk0 32 (by omega) b (hb.le hk) n [] (by omega) (by simp;omega)
      rw[List.append_nil]at w1 w2
      rw[show((32:Nat):Int)=32 from rfl]at w1 w2
      rw[w1,zaf,w2,zaf]
      obtain⟨c,x,y,ps,rfl,hn1,hs,hp,hc1⟩:=ha.kindc e2 e3
      obtain⟨c',x',y',ps',rfl,hn2,hs',hp',hc2⟩:=hb.kindc (by rw[←e1];exact e2) (by rw[←e1];exact e3)
      have f1:ps.flatten.length≤100000000:=by simp at la ⊢;omega
      have f2:ps'.flatten.length≤100000000:=by simp at lb ⊢;omega
      have hx:UInt8.toNat x<256:=UInt8.toNat_lt x
      have hy:UInt8.toNat y<256:=UInt8.toNat_lt y
      have hx':UInt8.toNat x'<256:=UInt8.toNat_lt x'
      have hy':UInt8.toNat y'<256:=UInt8.toNat_lt y'
      rw[prt_comp hc1 hn1 hs (by omega),prt_comp hc2 hn2 hs' (by omega),hp,hp']
      have ho: ∀p∈ps, ∀q∈ps',(zbt n).2 p q=some (cmpV k p q):=λ p hp q hq=>rOrderS k p q (hs p hp) (hs' q hq) (by omega) (Nat.le_trans (flat_mem_len hp) f1) (Nat.le_trans (flat_mem_len hq) f2) n (by omega)
      simp only[rSign,zaf]
      have loop: ∀(m i q:Nat),i+m=ps.length->m<q->i≤ps'.length->m_ref9_order_L2 (zbt n).2 (((c::x::y::ps.flatten).length:Int),ps,d1) (((c'::x'::y'::ps'.flatten).length:Int),ps',d2) (λ _=>some (if decide ((List.length ps:Int)<(List.length ps':Int))=true then -1 else if decide ((List.length ps':Int)<(List.length ps:Int))=true then 1 else 0)) q i=some (lexCmp (cmpV k) (ps.drop i) (ps'.drop i)):=by
       intro m
       induction m with
       |zero=>
        intro i q hi hq hib
        obtain⟨q,rfl⟩: ∃k,q=k+1:=⟨q - 1,by omega⟩
        rw[m_ref9_order_L2,m_ref9_order_B2,zbq]
        simp only[]
        rw[if_neg (by omega),if_neg (by simp),List.drop_eq_nil_of_le (show ps.length≤i by omega)]
        by_cases h:(List.length ps:Int)<(List.length ps':Int)
        .rw[if_pos (by simpa using h),List.drop_eq_getElem_cons (show i<ps'.length by omega)];rfl
        .rw[if_neg (by simpa using h),if_neg (by simp;omega),List.drop_eq_nil_of_le (show ps'.length≤i by omega)];rfl
       |succ m ih=>
        intro i q hi hq hib
        obtain⟨q,rfl⟩: ∃k,q=k+1:=⟨q - 1,by omega⟩
        rw[m_ref9_order_L2,m_ref9_order_B2,zbq]
        simp only[]
        rw[if_pos (by omega),List.drop_eq_getElem_cons (show i<ps.length by omega)]
        by_cases h:i<ps'.length
        .rw[if_pos (decide_eq_true (show(i:Int)<(ps'.length:Int)by omega)),zah (by omega),zah (by omega),zbv (by omega),zbv h,ho _ (List.getElem_mem _) _ (List.getElem_mem _),zaf,List.drop_eq_getElem_cons h,lexCmp,zbl (by omega)]
         by_cases h0:cmpV k ps[i] ps'[i]=0
         .simp only[h0,not_true_eq_false,ne_eq,if_false]
          exact ih (i+1) q (by omega) (by omega) (by omega)
         .rw[if_pos h0,if_pos h0]
        .rw[if_neg (by simp;omega),List.drop_eq_nil_of_le (show ps'.length≤i by omega)]
         rw[if_neg (by simp;omega),if_pos (by simp;omega)]
         rfl
      have:=loop ps.length 0 FU (by omega) (by omega) (by omega)
      rw[List.drop_zero,List.drop_zero]at this
      exact this
   .rw[if_pos (show¬gi a 0=gi b 0 from e1),if_pos (show gi a 0≠gi b 0 from e1),zju (by omega),zju (by omega),rSign,zaf]
    unfold sgnB
    by_cases h:gi a 0<gi b 0
    .simp[h]
    .have:gi b 0<gi a 0:=by
      rw[UInt8.lt_iff_toNat_lt]at h⊢
      have:(gi a 0).toNat≠(gi b 0).toNat:=λ h=>e1 (u8_inj h)
      omega
     simp[h,this]
end
noncomputable section
attribute [local irreducible] FU
theorem rAsc1 (w:List UInt8->Int->Bool->Option (Int×List (List UInt8)×Int)) (o:List UInt8->List UInt8->Option Int) (ps:List (List UInt8)) (hl:ps.length≤1000000) (hc: ∀p∈ps, ∀q∈ps,o p q=some (cmpW p q)):zhs w o ps 1=some (ascB ps):=by
 have hFU:=zeo
 unfold zhs
 rw[zbq]
 have loop: ∀(m i n:Nat),i+m=ps.length->1≤i->m<n->zdr o ps 1 (λ _=>some true) n i=some (ascB (ps.drop (i - 1))):=by
  intro m
  induction m with
  |zero=>
   intro i n hi h1 hn
   obtain⟨n,rfl⟩: ∃k,n=k+1:=⟨n - 1,by omega⟩
   rw[zdr,zeu,if_neg (by omega),List.drop_eq_getElem_cons (show i - 1<ps.length by omega),List.drop_eq_nil_of_le (by omega)]
   rfl
  |succ m ih=>
   intro i n hi h1 hn
   obtain⟨n,rfl⟩: ∃k,n=k+1:=⟨n - 1,by omega⟩
   have hip:i<ps.length:=by omega
   have e:ps.drop (i - 1)=ps[i - 1]::ps[i]::ps.drop (i+1):=by
    rw[List.drop_eq_getElem_cons (show i - 1<ps.length by omega),show i - 1+1=i by omega,List.drop_eq_getElem_cons hip]
   have e2:ps.drop (i+1 - 1)=ps[i]::ps.drop (i+1):=by rw[show i+1 - 1=i by omega,List.drop_eq_getElem_cons hip]
   have e3:gi ps ((i:Int) - 1)=ps[i - 1]:=by rw[show(i:Int) - 1=((i - 1:Nat):Int)by omega,zbv (by omega)]
   rw[zdr,zeu,if_pos (by omega),i64_sub1 (by omega),zah (by omega),zah (by omega),e3,zbv hip,hc _ (List.getElem_mem _) _ (List.getElem_mem _),zaf,zbl (by omega),e,ascB]
   by_cases h:cmpW ps[i - 1] ps[i]<0
   .rw[if_neg (by omega),ih (i+1) n (by omega) (by omega) (by omega),e2];simp[h]
   .rw[if_pos (by omega)];simp[h]
 match hps:ps with
 |[]=>
  obtain⟨n,hn⟩:=FU_k 1 (by omega)
  rw[hn,zdr,zeu,if_neg (by simp)];rfl
 |p::t=>
  have:=loop t.length 1 FU (by simp;omega) (by omega) (by simp at hl;omega)
  rw[show((1:Nat):Int)=1 from rfl]at this
  rw[this];rfl
theorem evens_drop2 {α:Type}: ∀(l:List α),2≤l.length-> ∃x,l[0]?=some x/\evens l=x::evens (l.drop 2)
 |x::y::t,_=>⟨x,rfl,rfl⟩
theorem rAsc2 (w:List UInt8->Int->Bool->Option (Int×List (List UInt8)×Int)) (o:List UInt8->List UInt8->Option Int) (ps:List (List UInt8)) (hl:ps.length≤1000000) (h2:ps.length % 2=0) (hc: ∀p∈ps, ∀q∈ps,o p q=some (cmpW p q)):zhs w o ps 2=some (ascB (evens ps)):=by
 have hFU:=zeo
 unfold zhs
 rw[zbq]
 have loop: ∀(m i n:Nat),i+2*m=ps.length->2≤i->i % 2=0->m<n->zdr o ps 2 (λ _=>some true) n i=some (ascB (evens (ps.drop (i - 2)))):=by
  intro m
  induction m with
  |zero=>
   intro i n hi h1 hi2 hn
   obtain⟨n,rfl⟩: ∃k,n=k+1:=⟨n - 1,by omega⟩
   rw[zdr,zeu,if_neg (by omega)]
   obtain⟨x,_,hx⟩:=evens_drop2 (ps.drop (i - 2)) (by simp;omega)
   rw[hx,List.drop_drop,List.drop_eq_nil_of_le (by omega)]
   rfl
  |succ m ih=>
   intro i n hi h1 hi2 hn
   obtain⟨n,rfl⟩: ∃k,n=k+1:=⟨n - 1,by omega⟩
   have hip:i<ps.length:=by omega
   obtain⟨x,hx0,hx⟩:=evens_drop2 (ps.drop (i - 2)) (by simp;omega)
   obtain⟨y,a,hy⟩:=evens_drop2 (ps.drop i) (by simp;omega)
   rw[List.getElem?_drop,List.getElem?_eq_getElem (by omega)]at hx0 a
   have ex:x=ps[i - 2]:=by simpa using(Option.some.inj hx0).symm
   have ey:y=ps[i]:=by simpa using(Option.some.inj a).symm
   rw[List.drop_drop,show i - 2+2=i by omega]at hx
   have e3:gi ps ((i:Int) - 2)=ps[i - 2]:=by rw[show(i:Int) - 2=((i - 2:Nat):Int)by omega,zbv (by omega)]
   have e4:i64 ((i:Int) - 2)=(i:Int) - 2:=zfn (by omega)
   have e5:i64 ((i:Int)+2)=((i+2:Nat):Int):=by rw[zfn (by omega)];omega
   rw[zdr,zeu,if_pos (by omega),e4,zah (by omega),zah (by omega),e3,zbv hip,hc _ (List.getElem_mem _) _ (List.getElem_mem _),zaf,e5,hx,hy,ascB,ex,ey]
   by_cases h:cmpW ps[i - 2] ps[i]<0
   .rw[if_neg (by omega),ih (i+2) n (by omega) (by omega) (by omega) (by omega),show i+2 - 2=i by omega,hy,ey];simp[h]
   .rw[if_pos (by omega)];simp[h]
 by_cases h0:ps.length=0
 .have:ps=[]:=List.length_eq_zero_iff.1 h0
  subst this
  obtain⟨n,hn⟩:=FU_k 1 (by omega)
  rw[hn,zdr,zeu,if_neg (by simp)]
  simp[evens,ascB]
 .have:=loop ((ps.length - 2) / 2) 2 FU (by omega) (by omega) (by omega) (by omega)
  rw[show((2:Nat):Int)=2 from rfl]at this
  rw[this];rfl
theorem rSmall {k:Nat} {v:List UInt8} (h:Sh k v) (lo hi:Int):m_ref9_small v lo hi=some (betB v lo hi):=by
 have hl:=h.len
 unfold m_ref9_small betB
 simp only[zbq,toNat1]
 rw[zju (by omega)]
 by_cases h1:gi v 0=1
 .obtain⟨l1,_⟩:=h.kind1 h1
  rw[if_pos h1,zah (by omega),show Int.toNat 1=1 from rfl,rNumber (v.drop 1) (by simp[l1]),zaf,zah (by omega),zaf,List.take_of_length_le (by simp[l1])]
  have:i64 (beNat (v.drop 1):Int)=numV v:=rfl
  rw[this]
  by_cases h2:lo≤numV v <;>simp[h1,h2]
 .rw[if_neg h1];simp[h1]
theorem rParted {k:Nat} (w:List UInt8->Int->Bool->Option (Int×List (List UInt8)×Int)) (o:List UInt8->List UInt8->Option Int) (c:UInt8) (ps:List (List UInt8)) (hp: ∀p∈ps,Sh k p) (hl:ps.length≤100000) (hc: ∀p∈ps, ∀q∈ps,o p q=some (cmpW p q)):m_ref9_parted w o (c.toNat:Int) ps=some (formedB c ps):=by
 have h0:1≤ps.length->gi ps 0∈ps:=λ h=>by
  rw[show(0:Int)=((0:Nat):Int)from rfl,zbv (by omega)];exact List.getElem_mem _
 unfold m_ref9_parted formedB
 simp only[zbq,toNat3,toNat5,toNat6,toNat7,toNat8,toNat9]
 by_cases h3:c=3
 .simp only[h3,if_true]
  by_cases h:(2:Int)≤(ps.length:Int)
  .rw[if_pos h]
   by_cases h8:(ps.length:Int)≤8
   .simp[show 2≤ps.length by omega,show ps.length≤8 by omega,h8]
   .simp[show¬ps.length≤8 by omega,h8]
  .rw[if_neg h];simp;omega
 .simp only[h3,if_false]
  by_cases h5:c=5
  .simp only[h5,if_true,rAsc1 w o ps (by omega) hc,zaf]
  .simp only[h5,if_false]
   by_cases h6:c=6
   .simp only[h6,if_true,tmod2]
    by_cases he:ps.length % 2=0
    .rw[if_pos he,rAsc2 w o ps (by omega) he hc,zaf];simp[he]
    .rw[if_neg he];simp[he]
   .simp only[h6,if_false]
    by_cases h7:c=7
    .simp only[h7,if_true]
     by_cases h1:(1:Int)≤(ps.length:Int)
     .rw[if_pos h1]
      by_cases h9:(ps.length:Int)≤9
      .have hm:=(hp _ (h0 (by omega))).len
       rw[if_pos h9,zah (by omega),zah (by omega)]
       simp only[toNat10,show 1≤ps.length by omega,show ps.length≤9 by omega,decide_true,Bool.true_and]
       rfl
      .rw[if_neg h9];simp;omega
     .rw[if_neg h1];simp;omega
    .simp only[h7,if_false]
     by_cases h8:c=8
     .simp only[h8,if_true]
      by_cases h1:(1:Int)≤(ps.length:Int)
      .rw[if_pos h1]
       by_cases h9:(ps.length:Int)≤33
       .rw[if_pos h9,zah (by omega),rSmall (hp _ (h0 (by omega))),zaf]
        simp[show 1≤ps.length by omega,show ps.length≤33 by omega]
       .rw[if_neg h9];simp;omega
      .rw[if_neg h1];simp;omega
     .simp only[h8,if_false]
      by_cases h9:c=9
      .simp only[h9,if_true]
       by_cases h1:(1:Int)≤(ps.length:Int)
       .rw[if_pos h1,zah (by omega),rSmall (hp _ (h0 (by omega))),zaf]
        simp[show 1≤ps.length by omega]
       .rw[if_neg h1];simp;omega
      .simp only[h9,if_false]
def AtR (k:Nat) (s:List UInt8) (o:Option (Int×List (List UInt8)×Int)):Prop:=(∃v r d,s=v++r/\IsV k v/\o=some ((v.length:Int),prt v,d))∨((∀v r,s=v++r-> ¬IsV k v)/\o=some (0,[],0))
theorem rWalk: ∀(k:Nat),k≤32-> ∀(n:Nat),k+40≤n-> ∀(s:List UInt8),s.length≤100000000->AtR k s ((zbt n).1 s (k:Int) true)
 |0,_,n,hn,s,hs=>by
  obtain⟨n,rfl⟩: ∃q,n=q+1:=⟨n - 1,by omega⟩
  refine .inr ⟨λ v r _ hv=>by have:=hv.sh.pos;omega, ?_⟩
  rw[zbt]
  show zkm (zbt n).1 (zbt n).2 s ((0:Nat):Int) true=_
  rw[zkm,zbq]
  by_cases h:(s.length:Int)<2
  .rw[if_pos h];rfl
  .rw[if_neg h];rfl
 |k+1,hk,n,hn,s,hs=>by
  have hFU:=zeo
  obtain⟨n,rfl⟩: ∃q,n=q+1:=⟨n - 1,by omega⟩
  rw[zbt]
  show AtR (k+1) s (zkm (zbt n).1 (zbt n).2 s ((k+1:Nat):Int) true)
  rw[zkm]
  simp only[zbq,decide_eq_true_eq]
  by_cases h0:(s.length:Int)<2
  .rw[if_pos h0]
   exact .inr ⟨noV_small (by omega),rfl⟩
  rw[if_neg h0,if_neg (by omega),zju (by omega)]
  obtain⟨c,b1,t,rfl⟩: ∃c b t,s=c::b::t:=by
   cases s with
   |nil=>simp at h0
   |cons c t=>cases t with
    |nil=>simp at h0
    |cons b t=>exact⟨c,b,t,rfl⟩
  simp only[toNat1,toNat2,toNat10]
  have g0:gi (c::b1::t) 0=c:=rfl
  have g1:gi (c::b1::t) 1=b1:=rfl
  have hlen:(c::b1::t).length=t.length+2:=rfl
  rw[hlen]at hs
  have kinds: ∀v r,c::b1::t=v++r->IsV (k+1) v->(c=1/\7≤t.length)∨(c=2/\b1.toNat≤1)∨(c=10/\1≤t.length)∨
    (∃l u ps,(3≤c.toNat/\c.toNat≤9)/\t=l::u/\Row k (b1.toNat*256+l.toNat) u ps r/\formedB c ps=true):=by
   intro v r e hv
   cases hv with
   |int k b hb=>
    simp only[List.cons_append,List.cons.injEq]at e
    refine .inl ⟨e.1, ?_⟩
    have:=congrArg List.length e.2
    simp at this;omega
   |bool k b hb=>
    simp only[List.cons_append,List.nil_append,List.cons.injEq]at e
    exact .inr (.inl ⟨e.1,by rw[e.2.1];exact hb⟩)
   |name k h l=>
    simp only[List.cons_append,List.nil_append,List.cons.injEq]at e
    refine .inr (.inr (.inl ⟨e.1, ?_⟩))
    rw[e.2.2];simp
   |comp k c' h l ps hc hn hp hf=>
    simp only[List.cons_append,List.cons.injEq]at e
    obtain⟨rfl,rfl,e⟩:=e
    exact .inr (.inr (.inr ⟨l,ps.flatten++r,ps,hc,e,⟨hn,hp,rfl⟩,hf⟩))
  by_cases h1:c=1
  .subst h1
   rw[if_pos g0]
   by_cases hl:(((1:UInt8)::b1::t).length:Int)<9
   .rw[if_pos hl]
    refine .inr ⟨λ v r e hv=> ?_,rfl⟩
    rcases kinds v r e hv with⟨_,h⟩|⟨h,_⟩|⟨h,_⟩|⟨_,_,_,h,_⟩
    .simp at hl;omega
    .simp at h
    .simp at h
    .simp at h
   .rw[if_neg hl]
    refine .inl ⟨1::b1::t.take 7,t.drop 7,1,by simp, .int k (b1::t.take 7) (by simp at hl ⊢;omega), ?_⟩
    simp at hl
    simp[prt,gi_0];omega
  .rw[if_neg (by rw[g0];exact h1)]
   by_cases h2:c=2
   .subst h2
    rw[if_pos g0,zah (by omega)]
    by_cases hb:1<gi ((2:UInt8)::b1::t) 1
    .rw[if_pos hb]
     refine .inr ⟨λ v r e hv=> ?_,rfl⟩
     rw[g1,UInt8.lt_iff_toNat_lt]at hb
     rcases kinds v r e hv with⟨h,_⟩|⟨_,h⟩|⟨h,_⟩|⟨_,_,_,h,_⟩
     .simp at h
     .simp at hb;omega
     .simp at h
     .simp at h
    .rw[if_neg hb]
     rw[g1,UInt8.lt_iff_toNat_lt]at hb
     exact .inl ⟨[2,b1],t,1,rfl, .bool k b1 (by simp at hb;omega),by simp[prt,gi_0]⟩
   .rw[if_neg (by rw[g0];exact h2)]
    have noK: ¬c=10-> ¬(3≤c.toNat/\c.toNat≤9)-> ∀v r,c::b1::t=v++r-> ¬IsV (k+1) v:=λ h10 hc v r e hv=>by
     rcases kinds v r e hv with⟨h,_⟩|⟨h,_⟩|⟨h,_⟩|⟨_,_,_,h,_⟩
     .exact h1 h
     .exact h2 h
     .exact h10 h
     .exact hc h
    by_cases hl:((c::b1::t).length:Int)<3
    .rw[if_pos hl,if_pos trivial]
     refine .inr ⟨λ v r e hv=> ?_,rfl⟩
     rw[hlen]at hl
     rcases kinds v r e hv with⟨h,_⟩|⟨h,_⟩|⟨_,h⟩|⟨_,_,_,_,h,_⟩
     .exact h1 h
     .exact h2 h
     .omega
     .rw[h]at hl;simp at hl;omega
    .rw[if_neg hl]
     obtain⟨l,u,rfl⟩: ∃l u,t=l::u:=by cases t with|nil=>simp at hl|cons l u=>exact⟨l,u,rfl⟩
     by_cases hc3:(UInt8.toNat (gi (c::b1::l::u) 0):Int)<3
     .rw[if_pos hc3,if_pos trivial]
      rw[g0]at hc3
      exact .inr ⟨noK (λ h=>by rw[h]at hc3;simp at hc3) (by omega),rfl⟩
     .rw[if_neg hc3]
      rw[g0]at hc3
      by_cases hc10:(10:Int)<(UInt8.toNat (gi (c::b1::l::u) 0):Int)
      .rw[if_pos hc10]
       rw[g0]at hc10
       exact .inr ⟨noK (λ h=>by rw[h]at hc10;simp at hc10) (by omega),rfl⟩
      .rw[if_neg hc10]
       rw[g0]at hc10
       by_cases h10:c=10
       .subst h10
        rw[if_pos g0]
        exact .inl ⟨[10,b1,l],u,1,rfl, .name k b1 l,by simp[prt,gi_0]⟩
       .rw[if_neg (by rw[g0];exact h10)]
        have hc:3≤c.toNat/\c.toNat≤9:=by
         have:c.toNat≠10:=λ h=>h10 (u8_inj (by rw[h];rfl))
         omega
        have hlen3:(c::b1::l::u).length=u.length+3:=rfl
        have g2:gi (c::b1::l::u) 2=l:=rfl
        rw[hlen3,zah (by omega),zah (by omega)]
        have kc: ∀v r,c::b1::l::u=v++r->IsV (k+1) v-> ∃ps,Row k (b1.toNat*256+l.toNat) u ps r/\formedB c ps=true:=by
         intro v r e hv
         rcases kinds v r e hv with⟨h,_⟩|⟨h,_⟩|⟨h,_⟩|⟨l',u',ps,_,h,h'⟩
         .exact absurd h h1
         .exact absurd h h2
         .exact absurd h h10
         .simp only[List.cons.injEq]at h
          obtain⟨rfl,rfl⟩:=h
          exact⟨ps,h'⟩
        have hx:UInt8.toNat b1<256:=UInt8.toNat_lt b1
        have hy:UInt8.toNat l<256:=UInt8.toNat_lt l
        have ek:i64 (((k+1:Nat):Int) - 1)=(k:Int):=by rw[zfn (by omega)];omega
        have hsl:u.length+3≤100000000:=by simpa using hs
        have loop: ∀(K:Int->Int->List (List UInt8)->Option (Int×List (List UInt8)×Int)) (m i q:Nat) (x12:Int) (ps':List (List UInt8)) (u':List UInt8),i+m=b1.toNat*256+l.toNat->m<q->ps'.length=i->(∀p∈ps',IsV k p)->u=ps'.flatten++u'->
          (∃qs r d,Row k m u' qs r/\zgu (zbt n).1 (c::b1::l::u) ((k+1:Nat):Int) true K q ((3+ps'.flatten.length:Nat):Int) x12 ps' i=K ((3+(ps'++qs).flatten.length:Nat):Int) d (ps'++qs))∨
          ((∀qs r, ¬Row k m u' qs r)/\zgu (zbt n).1 (c::b1::l::u) ((k+1:Nat):Int) true K q ((3+ps'.flatten.length:Nat):Int) x12 ps' i=some (0,[],0)):=by
         intro K m
         induction m with
         |zero=>
          intro i q x12 ps' u' hi hq hl' hp' hu
          obtain⟨q,rfl⟩: ∃k,q=k+1:=⟨q - 1,by omega⟩
          refine .inl ⟨[],u',x12,⟨rfl,by simp,by simp⟩, ?_⟩
          rw[zgu,znb,g1,g2,i64_step,if_neg (by omega),List.append_nil]
         |succ m ih=>
          intro i q x12 ps' u' hi hq hl' hp' hu
          obtain⟨q,rfl⟩: ∃k,q=k+1:=⟨q - 1,by omega⟩
          have hul:u.length=ps'.flatten.length+u'.length:=by rw[hu];simp
          have hdrop:List.drop (3+ps'.flatten.length) (c::b1::l::u)=u':=by
           rw[show 3+ps'.flatten.length=ps'.flatten.length+3 by omega]
           simp only[List.drop_succ_cons]
           rw[hu,List.drop_left]
          rw[zgu,znb,g1,g2,i64_step,if_pos (by omega),hlen3,zah (by omega),Int.toNat_natCast,hdrop,ek]
          rcases rWalk k (by omega) n (by omega) u' (by omega)with⟨v,w,d,hv1,hv2,hv3⟩|⟨hno,h0'⟩
          .have hvl:=hv2.sh.len
           have hw:u'.length=v.length+w.length:=by rw[hv1];simp
           have e1:i64 (((3+ps'.flatten.length:Nat):Int)+(v.length:Int))=((3+(ps'++[v]).flatten.length:Nat):Int):=by rw[zfn (by omega)];simp;omega
           have e2:3+(ps'++[v]).flatten.length=3+ps'.flatten.length+v.length:=by simp;omega
           have e3:List.take v.length u'=v:=by rw[hv1,List.take_left]
           rw[hv3,zaf]
           simp only[]
           rw[if_neg (by omega),e1,zah (by omega),Int.toNat_natCast,show 3+(ps'++[v]).flatten.length - (3+ps'.flatten.length)=v.length by omega,e3,zah (by simp;omega),zbl (by omega)]
           rcases ih (i+1) q (max x12 d) (ps'++[v]) w (by omega) (by omega) (by simp[hl']) (λ p hp=>by
            rcases List.mem_append.1 hp with h|h
            .exact hp' p h
            .rw[List.mem_singleton.1 h];exact hv2) (by rw[hu,hv1];simp)with⟨qs,r,d',hr,he⟩|⟨hno,he⟩
           .refine .inl ⟨v::qs,r,d',⟨by simp[hr.1],λ x hx=> ?_,by rw[hv1,hr.2.2];simp⟩, ?_⟩
            .rcases List.mem_cons.1 hx with rfl|hx
             .exact hv2
             .exact hr.2.1 x hx
            .rw[he];simp
           .refine .inr ⟨λ qs r hr=> ?_,he⟩
            obtain⟨qs',_,hr'⟩:=Row.step hv2 hv1 qs r hr
            exact hno qs' r hr'
          .rw[h0',zaf]
           simp only[if_true]
           refine .inr ⟨λ qs r hr=> ?_,trivial⟩
           obtain⟨h1',h2',h3'⟩:=hr
           match qs,h1' with
           |x::qs',_=>exact hno x (qs'.flatten++r) (by rw[h3'];simp) (h2' x (by simp))
        rcases loop _ (b1.toNat*256+l.toNat) 0 FU 0 [] u (by omega) (by omega) rfl (by simp) rfl with⟨qs,r,d,hr,he⟩|⟨hno,he⟩
        .rw[show((3+([]:List (List UInt8)).flatten.length:Nat):Int)=3 from rfl,show((0:Nat):Int)=0 from rfl]at he
         have hql:u.length=qs.flatten.length+r.length:=by rw[hr.2.2];simp
         have ho: ∀p∈qs, ∀q∈qs,(zbt n).2 p q=some (cmpW p q):=λ p h q h'=>by
          have f1:=flat_mem_len h
          have f2:=flat_mem_len h'
          rw[rOrderS k p q (hr.2.1 p h).sh (hr.2.1 q h').sh (by omega) (by omega) (by omega) n (by omega),cmpW_eq (hr.2.1 p h).sh (hr.2.1 q h').sh (by omega)]
         rw[he,List.nil_append]
         simp only[if_true]
         rw[zah (by omega),g0,rParted (k:=k) _ _ c qs (λ p hp=>(hr.2.1 p hp).sh) (by rw[hr.1];omega) ho,zaf]
         cases hf:formedB c qs with
         |true=>
          refine .inl ⟨c::b1::l::qs.flatten,r,i64 (d+1),by rw[hr.2.2];simp, .comp k c b1 l qs hc hr.1 hr.2.1 hf, ?_⟩
          rw[prt_comp hc hr.1 (λ p hp=>(hr.2.1 p hp).sh) (by omega)]
          simp only[Bool.not_true,Bool.false_eq_true,if_false]
          congr 2
          simp only[List.length_cons];omega
         |false=>
          refine .inr ⟨λ v r' e hv=> ?_,by simp⟩
          obtain⟨ps,hr',hf'⟩:=kc v r' e hv
          have:=(Sh.flat (λ p hp=>(hr.2.1 p hp).sh) (λ p hp=>(hr'.2.1 p hp).sh) (by rw[hr.1,hr'.1]) (by rw[←hr.2.2];exact hr'.2.2)).1
          rw[this,hf']at hf;cases hf
        .rw[show((3+([]:List (List UInt8)).flatten.length:Nat):Int)=3 from rfl,show((0:Nat):Int)=0 from rfl]at he
         rw[he]
         refine .inr ⟨λ v r' e hv=> ?_,rfl⟩
         obtain⟨ps,hr',_⟩:=kc v r' e hv
         exact hno ps r' hr'
end
noncomputable section
attribute [local irreducible] FU
def Vd (v:List UInt8):Prop:=IsV 32 v/\v.length≤131072
def vldB (v:List UInt8):Bool:=by classical exact decide (Vd v)
theorem zdm {v:List UInt8}:vldB v=true↔Vd v:=by unfold vldB;simp
theorem vldB_no {v:List UInt8} (h: ¬Vd v):vldB v=false:=by cases e:vldB v with|true=>exact absurd (zdm.1 e) h|false=>rfl
theorem Vd.ne {v:List UInt8} (h:Vd v):v≠[]:=λ e=>by have:=h.1.sh.len;rw[e]at this;simp at this
theorem vValid (v:List UInt8):zkl v=some (vldB v):=by
 have hFU:=zeo
 unfold zkl
 rw[zbq]
 by_cases h0:v=[]
 .rw[if_neg (λ h=>h h0),vldB_no (λ h=>h.ne h0)]
 rw[if_pos h0]
 by_cases hl:(v.length:Int)≤131072
 .rw[if_pos hl]
  have h:=vLength 32 (Nat.le_refl _) FU (by omega) v (by omega)
  rw[show(33:Int) - ((32:Nat):Int)=1 from rfl]at h
  unfold m_value_length
  rcases h with⟨w,r,e,hv,h⟩|⟨hno,h⟩
  .rw[h,zaf]
   congr 1
   by_cases hr:r=[]
   .subst hr
    rw[List.append_nil]at e
    subst e
    rw[zdm.2 ⟨hv,by omega⟩];simp
   .have: ¬Vd v:=λ hh=>by
     have:=(hv.sh.uniq hh.1.sh r [] (by rw[List.append_nil, ←e])).2
     exact hr this
    rw[vldB_no this]
    have hlr:0<r.length:=List.length_pos_iff.2 hr
    rw[e];simp;omega
  .rw[h,zaf,vldB_no (λ hh=>hno v [] (by simp) hh.1)]
   congr 1
   have:0<v.length:=List.length_pos_iff.2 h0
   simp;omega
 .rw[if_neg hl,vldB_no (λ h=>hl (by have:=h.2;omega))]
theorem rValid (v:List UInt8):ziw v=some (vldB v):=by
 have hFU:=zeo
 unfold ziw
 by_cases hl:(131072:Int)<v.length
 .rw[if_pos hl,vldB_no (λ h=>by have:=h.2;omega)]
 .rw[if_neg hl]
  unfold m_ref9_read m_ref9_walk
  have h:=rWalk 32 (Nat.le_refl _) FU (by omega) v (by omega)
  rw[show((32:Nat):Int)=32 from rfl]at h
  rcases h with⟨w,r,d,e,hv,h⟩|⟨hno,h⟩
  .rw[h,zaf,zaf,zbq]
   simp only[]
   have hw:=hv.sh.len
   rw[if_pos (by omega)]
   congr 1
   by_cases hr:r=[]
   .subst hr
    rw[List.append_nil]at e
    subst e
    rw[zdm.2 ⟨hv,by omega⟩];simp
   .have: ¬Vd v:=λ hh=>hr (hv.sh.uniq hh.1.sh r [] (by rw[List.append_nil, ←e])).2
    rw[vldB_no this]
    have hlr:0<r.length:=List.length_pos_iff.2 hr
    rw[e];simp;omega
  .rw[h,zaf,zaf,zbq,vldB_no (λ hh=>hno v [] (by simp) hh.1)]
   simp only[]
   rw[if_neg (by omega)]
def kindW (v:List UInt8):Int:=if vldB v=true then((gi v 0).toNat:Int)else 0
theorem vKind (v:List UInt8):zho v=some (kindW v):=by
 unfold zho kindW
 rw[vValid,zaf]
 cases h:vldB v with
 |true=>have:=(zdm.1 h).1.sh.len;rw[if_neg (by simp),if_pos rfl,zju (by omega)]
 |false=>rfl
theorem rKind (v:List UInt8):zlg v=some (kindW v):=by
 unfold zlg kindW
 rw[rValid,zaf]
 cases h:vldB v with
 |true=>have:=(zdm.1 h).1.sh.len;rw[if_neg (by simp),if_pos rfl,zju (by omega)]
 |false=>rfl
def prtW (v:List UInt8):List (List UInt8):=if vldB v=true then prt v else[]
theorem vPartsW (v:List UInt8):zmv v=some (prtW v):=by
 unfold zmv prtW
 rw[vKind,zaf]
 unfold kindW
 cases h:vldB v with
 |false=>
  simp only[Bool.false_eq_true,if_false]
  have:=vSimple 0
  rw[show((0:UInt8).toNat:Int)=0 from rfl]at this
  rw[this,zaf];rfl
 |true=>
  obtain⟨hv,hl⟩:=zdm.1 h
  simp only[if_true,vSimple,zaf]
  by_cases hs:gi v 0=1∨gi v 0=2∨gi v 0=10
  .rw[if_pos (decide_eq_true (.inr hs))];unfold prt;rw[if_pos hs]
  .have h1: ¬gi v 0=1:=λ h=>hs (.inl h)
   have h2: ¬(gi v 0=2∨gi v 0=10):=λ h=>hs (.inr h)
   obtain⟨c,x,y,ps,rfl,hn,hp,_,hc⟩:=hv.sh.kindc h1 h2
   have h0: ¬gi (c::x::y::ps.flatten) 0=0:=by rw[gi_0];rintro rfl;simp at hc
   rw[if_neg (λ h=>(of_decide_eq_true h).elim h0 hs),vParts hp (by omega) (by simp at hl ⊢;omega),zaf,prt_comp hc hn hp (by omega)]
theorem rPartsW (v:List UInt8):zgq v=some (prtW v):=by
 have hFU:=zeo
 unfold zgq prtW
 rw[rValid,zaf]
 cases h:vldB v with
 |false=>rfl
 |true=>
  obtain⟨hv,hl⟩:=zdm.1 h
  obtain⟨d,hd⟩:=rWalk0 32 (by omega) v hv.sh FU [] (by omega) (by simp;omega)
  rw[List.append_nil,show((32:Nat):Int)=32 from rfl]at hd
  unfold m_ref9_walk
  simp only[Bool.not_true,Bool.false_eq_true,if_false,if_true,hd,zaf]
def cmpC (a b:List UInt8):Int:=if vldB a=true/\vldB b=true then cmpW a b else if vldB a=true then 1 else if vldB b=true then -1 else strCmp a b
theorem vCompareW (a b:List UInt8):zgx a b=some (cmpC a b):=by
 unfold zgx cmpC
 rw[vValid,zaf,vValid,zaf,zbq]
 cases ha:vldB a <;>cases hb:vldB b
 .simp[cStr,zaf]
 .simp
 .simp
 .obtain⟨h1,l1⟩:=zdm.1 ha
  obtain⟨h2,l2⟩:=zdm.1 hb
  simp only[if_true,and_self]
  rw[vCompare h1.sh h2.sh (by omega) (by omega) (by omega),zaf];rfl
theorem rCompareW (a b:List UInt8):zmy a b=some (cmpC a b):=by
 have hFU:=zeo
 unfold zmy cmpC
 rw[rValid,zaf,rValid,zaf,zbq]
 cases ha:vldB a <;>cases hb:vldB b
 .simp only[Bool.false_eq_true,if_false,and_self,not_true_eq_false,rSignStr,zaf]
 .simp[rSign,zaf]
 .simp[rSign,zaf]
 .obtain⟨h1,l1⟩:=zdm.1 ha
  obtain⟨h2,l2⟩:=zdm.1 hb
  simp only[if_true,and_self]
  unfold m_ref9_order
  rw[rOrderS 32 a b h1.sh h2.sh (by omega) (by omega) (by omega) FU (by omega),zaf];rfl
theorem cmpW_TO:TO (Sh 32) cmpW:=cmpV_TO 32
theorem cmpC_TO:TO (λ _=>True) cmpC:=by
 have hk:TO (λ _:Bool=>True) (λ a b:Bool=>if a=b then 0 else if a=true then 1 else -1):=by
  refine⟨λ a b _ _=> ?_,λ a b _ _=> ?_,λ a b d _ _ _=> ?_,λ a b _ _=> ?_⟩
  .cases a <;>cases b <;>simp
  .cases a <;>cases b <;>simp
  .cases a <;>cases b <;>cases d <;>simp
  .cases a <;>cases b <;>simp
 refine TO.byKey vldB hk (λ K=> ?_) (λ a b _ _ hne=> ?_)
 .cases K with
  |true=>exact(cmpW_TO.sub (Q:=λ v=>True/\vldB v=true) (λ v hv=>(zdm.1 hv.2).1.sh)).congr (λ a b ha hb=>by unfold cmpC;rw[if_pos ⟨ha.2,hb.2⟩])
  |false=>exact(TO_str.sub (Q:=λ v=>True/\vldB v=false) (λ _ _=>trivial)).congr (λ a b ha hb=>by unfold cmpC;simp[ha.2,hb.2])
 .unfold cmpC
  cases ha:vldB a <;>cases hb:vldB b
  .rw[ha,hb]at hne;exact absurd rfl hne
  .simp
  .simp
  .rw[ha,hb]at hne;exact absurd rfl hne
theorem cmpC_self (a:List UInt8):cmpC a a=0:=cmpC_TO.self a trivial
theorem cmpC_trans {a b c:List UInt8} (h:cmpC a b<0) (h':cmpC b c<0):cmpC a c<0:=cmpC_TO.trans a b c trivial trivial trivial h h'
theorem cmpC_anti (a b:List UInt8):cmpC b a= - cmpC a b:=cmpC_TO.anti a b trivial trivial
theorem cmpC_eq {a b:List UInt8}:cmpC a b=0↔a=b:=cmpC_TO.eq a b trivial trivial
def cmpS (a b:List UInt8):Option Int:=some (cmpC a b)
theorem cmpC_ok:CmpOk cmpS:=by
 have e: ∀x y,ltC cmpS x y=decide (cmpC x y<0):=λ x y=>rfl
 refine⟨λ x y=>⟨_,rfl⟩,λ x=> ?_,λ x y z=> ?_,λ x y z=> ?_,λ x y=> ?_⟩
 .rw[e,cmpC_self];rfl
 .simp only[e,decide_eq_true_eq];exact cmpC_trans
 .simp only[e,decide_eq_false_iff_not]
  intro h1 h2 h3
  have a1:=cmpC_anti x y
  have a2:=cmpC_anti y z
  by_cases e1:cmpC x y=0
  .rw[cmpC_eq]at e1;subst e1;exact h2 h3
  .have:=cmpC_trans (a:=y) (b:=x) (c:=z) (by omega) h3
   exact h2 this
 .simp only[e,decide_eq_false_iff_not]
  intro h1 h2
  have a1:=cmpC_anti x y
  exact cmpC_eq.1 (by omega)
abbrev SLC (l:List (List UInt8)):Prop:=l.Pairwise (λ a b=>cmpC a b<0)
theorem slc_ext {a b:List (List UInt8)} (ha:SLC a) (hb:SLC b) (h: ∀x,x∈a↔x∈b):a=b:=
 SL_ext (lt:=λ a b=>cmpC a b<0) (λ a=>by rw[cmpC_self];omega) (λ h h'=>cmpC_trans h h') ha hb h
def sortW (l:List (List UInt8)):List (List UInt8):=compactL (sortC cmpS l)
theorem sortW_spec (l:List (List UInt8)):SLC (sortW l)/\(∀x,x∈sortW l↔x∈l)/\(sortW l).length≤l.length:=by
 have e: ∀x y,ltC cmpS x y=decide (cmpC x y<0):=λ x y=>rfl
 unfold sortW sortC
 refine⟨compactL_sorted (lt:=λ a b=>cmpC a b<0) (λ a=>by rw[cmpC_self];omega) (λ h h'=>cmpC_trans h h') _ ?_,λ x=>by rw[compactL_mem];exact List.mem_mergeSort,Nat.le_trans (compactL_len _) (by rw[List.length_mergeSort];exact Nat.le_refl _)⟩
 have h:=List.pairwise_mergeSort (le:=λ x y:List UInt8=> !ltC cmpS y x) (λ a b c h1 h2=>by
  simp only[Bool.not_eq_true']at h1 h2⊢
  exact cmpC_ok.ntrans c b a h2 h1) (λ a b=>by
  simp only[Bool.or_eq_true,Bool.not_eq_true',e,decide_eq_false_iff_not]
  have:=cmpC_anti a b
  omega) l
 refine h.imp λ {a b} hab=> ?_
 simp only[Bool.not_eq_true',e,decide_eq_false_iff_not]at hab
 have:=cmpC_anti a b
 by_cases h0:cmpC a b=0
 .exact .inl (cmpC_eq.1 h0)
 .exact .inr (by omega)
end
noncomputable section
attribute [local irreducible] FU
theorem m_slices_Compact_L_api_Value_api_Value_in (l:List (List UInt8)) (hl:l.length≤1099511627776) (i:Nat) (K:List (List UInt8)->Int->Option (List (List UInt8))): ∀(m j n:Nat) (x0:List (List UInt8)) (x3:Nat),i+j+m=l.length->1≤j->m<n->x0.length=l.length->x3+1≤i+j->x0.take x3=compactL (l.take (i+j))->x3=(compactL (l.take (i+j))).length->(∀q,i+j≤q+1->x0[q]?=l[q]?)->
  ∃(x0':List (List UInt8)) (x3':Nat),zcg l i K n x0 x3 j=K x0' x3'/\x0'.length=l.length/\x3'≤l.length/\x0'.take x3'=compactL l:=by
 intro m
 induction m with
 |zero=>
  intro j n x0 x3 hi hj hn hx h3 ht h3' hq
  obtain⟨n,rfl⟩: ∃k,n=k+1:=⟨n - 1,by omega⟩
  refine⟨x0,x3, ?_,hx,by omega, ?_⟩
  .rw[zcg,zcy,if_neg (by omega)]
  .rw[ht,show i+j=l.length by omega,List.take_length]
 |succ m ih=>
  intro j n x0 x3 hi hj hn hx h3 ht h3' hq
  obtain⟨n,rfl⟩: ∃k,n=k+1:=⟨n - 1,by omega⟩
  have hlt:i+j<l.length:=by omega
  have g1:gi x0 ((i:Int)+(j:Int))=l[i+j]:=by
   rw[show(i:Int)+(j:Int)=((i+j:Nat):Int)by omega,zbv (by omega)]
   have:=hq (i+j) (by omega)
   rw[List.getElem?_eq_getElem (by omega),List.getElem?_eq_getElem hlt]at this
   exact Option.some.inj this
  have g2:gi x0 ((i:Int)+((j:Int) - 1))=l[i+j - 1]:=by
   rw[show(i:Int)+((j:Int) - 1)=((i+j - 1:Nat):Int)by omega,zbv (by omega)]
   have:=hq (i+j - 1) (by omega)
   rw[List.getElem?_eq_getElem (by omega),List.getElem?_eq_getElem (by omega)]at this
   exact Option.some.inj this
  have hsn:compactL (l.take (i+(j+1)))=cstep (compactL (l.take (i+j))) l[i+j]:=by
   rw[show i+(j+1)=(i+j)+1 by omega, ←List.take_append_getElem hlt,zmi]
  have hla:(compactL (l.take (i+j))).getLast?=some l[i+j - 1]:=by
   rw[compactL_last,List.getLast?_eq_getElem?]
   simp only[List.length_take]
   rw[show min (i+j) l.length - 1=i+j - 1 by omega,List.getElem?_take_of_lt (by omega),List.getElem?_eq_getElem (by omega)]
  rw[zcg,zcy]
  simp(disch:=omega) only[if_pos,zbq,zah,i64_sub1,zbl,g1,g2]
  by_cases he:l[i+j]=l[i+j - 1]
  .rw[if_neg (by simp[he])]
   refine ih (j+1) n x0 x3 (by omega) (by omega) (by omega) hx (by omega) ?_ ?_ (λ q h=>hq q (by omega))
   .rw[ht,hsn,cstep,if_pos (by rw[hla,he])]
   .rw[hsn,cstep,if_pos (by rw[hla,he])];exact h3'
  .rw[if_pos he]
   simp(disch:=omega) only[zah,Int.toNat_natCast,zbl]
   have hc:cstep (compactL (l.take (i+j))) l[i+j]=compactL (l.take (i+j))++[l[i+j]]:=by
    rw[cstep,if_neg]
    rw[hla];exact λ e=>he (Option.some.inj e).symm
   refine ih (j+1) n _ (x3+1) (by omega) (by omega) (by omega) (by simp[hx]) (by omega) ?_ ?_ (λ q h=> ?_)
   .rw[hsn,hc, ←ht]
    rw[List.take_succ_eq_append_getElem (by simp;omega)]
    congr 1
    .rw[List.take_set_of_le (by omega)]
    .simp
   .rw[hsn,hc];simp;omega
   .rw[List.getElem?_set_ne (by omega)]
    exact hq q (by omega)
theorem m_slices_Compact_L_api_Value_api_Value_out (l:List (List UInt8)) (hl:l.length≤1099511627776): ∀(m i n:Nat),i+m=l.length->1≤i->m<n->compactL (l.take i)=l.take i->
  zch l (λ _=>some l) n i=some (compactL l):=by
 intro m
 induction m with
 |zero=>
  intro i n hi h1 hn hc
  obtain⟨n,rfl⟩: ∃k,n=k+1:=⟨n - 1,by omega⟩
  rw[zch,zcx,if_neg (by omega)]
  rw[show i=l.length by omega,List.take_length]at hc
  rw[hc]
 |succ m ih=>
  intro i n hi h1 hn hc
  obtain⟨n,rfl⟩: ∃k,n=k+1:=⟨n - 1,by omega⟩
  have hlt:i<l.length:=by omega
  have g2:gi l ((i:Int) - 1)=l[i - 1]:=by
   rw[show(i:Int) - 1=((i - 1:Nat):Int)by omega,zbv (by omega)]
  have hla:(l.take i).getLast?=some l[i - 1]:=by
   rw[List.getLast?_eq_getElem?]
   simp only[List.length_take]
   rw[show min i l.length - 1=i - 1 by omega,List.getElem?_take_of_lt (by omega),List.getElem?_eq_getElem (by omega)]
  have hsn:compactL (l.take (i+1))=cstep (l.take i) l[i]:=by
   rw[←List.take_append_getElem hlt,zmi,hc]
  rw[zch,zcx]
  simp(disch:=omega) only[if_pos,zbq,zah,i64_sub1,zbl,g2,zbv]
  by_cases he:l[i]=l[i - 1]
  .rw[if_pos he]
   have hct:compactL (l.take (i+1))=l.take i:=by rw[hsn,cstep,if_pos (by rw[hla,he])]
   have hFU:=zeo
   obtain⟨x0',x3',e1,e2,e3,e4⟩:=m_slices_Compact_L_api_Value_api_Value_in l hl i (λ b a=>need ((0:Int)≤a/\a≤(List.length b:Int)/\(List.length b:Int)≤(List.length b:Int)) (need (0≤a/\a≤(List.length (List.take (Int.toNat a) b++List.replicate (Int.toNat (List.length b:Int) - Int.toNat a) ([]:(List UInt8))++List.drop (Int.toNat a+(Int.toNat (List.length b:Int) - Int.toNat a)) b):Int)) (some (List.take (Int.toNat a) (List.take (Int.toNat a) b++List.replicate (Int.toNat (List.length b:Int) - Int.toNat a) ([]:(List UInt8))++List.drop (Int.toNat a+(Int.toNat (List.length b:Int) - Int.toNat a)) b)))))
    (l.length - i - 1) 1 FU l i (by omega) (by omega) (by omega) rfl (by omega) hct.symm (by rw[hct];simp;omega) (λ q _=>rfl)
   rw[show((1:Nat):Int)=1 from rfl]at e1
   rw[e1]
   have hlen:(List.take x3' x0'++List.replicate (x0'.length - x3') ([]:(List UInt8))++List.drop (x3'+(x0'.length - x3')) x0').length=x0'.length:=by simp;omega
   simp only[Int.toNat_natCast,hlen]
   rw[zah (by omega),zah (by omega),List.append_assoc,List.take_append_of_le_length (by simp;omega),List.take_take,Nat.min_self,e4]
  .rw[if_neg he]
   refine ih (i+1) n (by omega) (by omega) (by omega) ?_
   rw[hsn,cstep,if_neg,List.take_append_getElem hlt]
   rw[hla];exact λ e=>he (Option.some.inj e).symm
theorem m_slices_Compact_L_api_Value_api_Value_eq (l:List (List UInt8)) (hl:l.length≤1099511627776):zdj l=some (compactL l):=by
 unfold zdj
 have hFU:=zeo
 by_cases h:(List.length l:Int)<2
 .rw[if_pos h]
  congr 1
  match l,h with
  |[],_=>rfl
  |[x],_=>simp[compactL,cstep]
  |x::y::t,h=>simp at h;omega
 .rw[if_neg h,zbq]
  have h1:compactL (l.take 1)=l.take 1:=by
   match l with
   |[]=>rfl
   |x::t=>simp[compactL,cstep]
  exact m_slices_Compact_L_api_Value_api_Value_out l hl (l.length - 1) 1 FU (by omega) (by omega) (by omega) h1
theorem vClone (l:List (List UInt8)) (hl:l.length≤100000000):zcz l=some l:=by
 unfold zcz
 rw[nilc_eq (λ h=>by subst h;simp[need]),zah (by simp;omega)]
 simp
theorem vSort (l:List (List UInt8)) (hl:l.length≤100000000):m_value_Sort l=some (sortW l):=by
 unfold m_value_Sort
 have hc:zgx=cmpS:=funext λ a=>funext λ b=>vCompareW a b
 have hs:=m_sortby_eq (c:=cmpS) (xs:=l) (by omega) cmpC_ok
 have hlen:(sortC cmpS l).length=l.length:=List.length_mergeSort _
 rw[vClone l hl,zaf,hc,hs,zaf,m_slices_Compact_L_api_Value_api_Value_eq _ (by rw[hlen];omega),zaf,vClip,zaf]
 rfl
theorem ins_eq {α:Type} (out:List α) (j:Nat) (hj:j≤out.length) (z x:α):
  (List.take (j+1) (out++[z])++List.take (Nat.min ((out++[z]).length - j) ((out++[z]).length - (j+1))) (List.drop j (out++[z]))++List.drop (j+1+Nat.min ((out++[z]).length - j) ((out++[z]).length - (j+1))) (out++[z])).length=out.length+1∧
  List.set (List.take (j+1) (out++[z])++List.take (Nat.min ((out++[z]).length - j) ((out++[z]).length - (j+1))) (List.drop j (out++[z]))++List.drop (j+1+Nat.min ((out++[z]).length - j) ((out++[z]).length - (j+1))) (out++[z])) j x=out.take j++[x]++out.drop j:=by
 have hm:Nat.min ((out++[z]).length - j) ((out++[z]).length - (j+1))=out.length - j:=by
  have:Nat.min ((out++[z]).length - j) ((out++[z]).length - (j+1))=min ((out++[z]).length - j) ((out++[z]).length - (j+1)):=rfl
  rw[this];simp;omega
 rw[hm]
 have h1:List.drop (j+1+(out.length - j)) (out++[z])=[]:=List.drop_eq_nil_of_le (by simp;omega)
 have h2:List.take (out.length - j) (List.drop j (out++[z]))=out.drop j:=by
  rw[List.drop_append_of_le_length hj,List.take_left' (by simp)]
 rw[h1,h2,List.append_nil]
 refine⟨by simp;omega, ?_⟩
 obtain⟨y,hy⟩: ∃y,List.take (j+1) (out++[z])=out.take j++[y]:=by
  by_cases h:j<out.length
  .exact⟨out[j],by rw[List.take_append_of_le_length (by omega),List.take_append_getElem h]⟩
  .have:j=out.length:=by omega
   subst this
   exact⟨z,by rw[List.take_of_length_le (by simp),List.take_length]⟩
 rw[hy,List.append_assoc,List.append_assoc,List.set_append_right _ _ (by simp;omega)]
 congr 1
 have:j - (out.take j).length=0:=by simp;omega
 rw[this];rfl
theorem rSort_place (l:List (List UInt8)) (out:List (List UInt8)) (i:Nat) (hi:i<l.length) (hl:l.length≤100000000000) (ho:out.length≤100000000000) (K:Int->Option (List (List UInt8))): ∀(k n:Nat),k≤out.length->k<n->
  ∃j:Nat,j≤k/\m_ref9_Sort_L26 l out i K n k=K j/\(∀q (h:q<out.length),j≤q->q<k->0<cmpC out[q] l[i])/\(∀h:j - 1<out.length,0<j-> ¬0<cmpC out[j - 1] l[i]):=by
 intro k
 induction k with
 |zero=>
  intro n h1 h2
  obtain⟨n,rfl⟩: ∃q,n=q+1:=⟨n - 1,by omega⟩
  refine⟨0,Nat.le_refl _, ?_,λ q h h' h''=>by omega,λ h h'=>by omega⟩
  rw[m_ref9_Sort_L26,m_ref9_Sort_B26]
  simp only[zbq]
  rw[if_neg (by simp),if_neg (by simp)]
 |succ k ih=>
  intro n h1 h2
  obtain⟨n,rfl⟩: ∃q,n=q+1:=⟨n - 1,by omega⟩
  have e1:i64 (((k+1:Nat):Int) - 1)=(k:Int):=by rw[zfn (by omega)];omega
  rw[m_ref9_Sort_L26,m_ref9_Sort_B26]
  simp only[zbq]
  rw[if_pos (by omega),zah (by omega),e1,zah (by omega),zbv (by omega),zbv hi,rCompareW,zaf]
  by_cases hc:0<cmpC out[k] l[i]
  .rw[if_pos (decide_eq_true hc)]
   obtain⟨j,j1,j2,j3,j4⟩:=ih n (by omega) (by omega)
   refine⟨j,by omega,j2,λ q h h' h''=> ?_,j4⟩
   by_cases hq:q=k
   .subst hq;exact hc
   .exact j3 q h h' (by omega)
  .rw[if_neg (λ h=>hc (of_decide_eq_true h))]
   exact⟨k+1,Nat.le_refl _,rfl,λ q h h' h''=>by omega,λ h h'=>by simpa using hc⟩
theorem rSort_loop (l:List (List UInt8)) (hl:l.length≤10000000000): ∀(m i n:Nat) (out:List (List UInt8)),i+m=l.length->m<n->SLC out->out.length≤i->(∀x,x∈out↔x∈l.take i)->
  ∃s,zll l (λ x=>some x) n out i=some s/\SLC s/\(∀x,x∈s↔x∈l):=by
 have hFU:=zeo
 intro m
 induction m with
 |zero=>
  intro i n out hi hn hs ho hm
  obtain⟨n,rfl⟩: ∃q,n=q+1:=⟨n - 1,by omega⟩
  refine⟨out,by rw[zll,m_ref9_Sort_B14,if_neg (by omega)],hs,λ x=> ?_⟩
  rw[hm,show i=l.length by omega,List.take_length]
 |succ m ih=>
  intro i n out hi hn hs ho hm
  obtain⟨n,rfl⟩: ∃q,n=q+1:=⟨n - 1,by omega⟩
  have hil:i<l.length:=by omega
  have hmem: ∀x,x∈l.take (i+1)↔x∈l.take i∨x=l[i]:=λ x=>by
   rw[←List.take_append_getElem hil];simp only[List.mem_append,List.mem_singleton]
  rw[zll,m_ref9_Sort_B14,if_pos (by omega)]
  simp only[zbq]
  obtain⟨j,j1,j2,j3,j4⟩:=rSort_place l out i hil (by omega) (by omega) _ out.length FU (Nat.le_refl _) (by omega)
  rw[j2]
  have hpw:=List.pairwise_iff_getElem.1 hs
  have go:(∀a∈out.take j,cmpC a l[i]<0)-> ∃s,need (List.length out+List.length [([]:List UInt8)]≤137438953472) (need ((0:Int)≤i64 ((j:Int)+1)/\(i64 ((j:Int)+1))≤(List.length (out++([([]:List UInt8)])):Int)/\(List.length (out++([([]:List UInt8)])):Int)≤(List.length (out++([([]:List UInt8)])):Int)) (need ((0:Int)≤(j:Int)/\(j:Int)≤(List.length (out++([([]:List UInt8)])):Int)/\(List.length (out++([([]:List UInt8)])):Int)≤(List.length (out++([([]:List UInt8)])):Int)) (need ((0:Int)≤(i:Int)/\(i:Int)<(List.length l:Int)) (need ((0:Int)≤(j:Int)/\(j:Int)<(List.length (List.take (Int.toNat (i64 ((j:Int)+1))) (out++([([]:List UInt8)]))++List.take (Nat.min (Int.toNat (List.length (out++([([]:List UInt8)])):Int) - Int.toNat (j:Int)) (Int.toNat (List.length (out++([([]:List UInt8)])):Int) - Int.toNat (i64 ((j:Int)+1)))) (List.drop (Int.toNat (j:Int)) (out++([([]:List UInt8)])))++List.drop (Int.toNat (i64 ((j:Int)+1))+(Nat.min (Int.toNat (List.length (out++([([]:List UInt8)])):Int) - Int.toNat (j:Int)) (Int.toNat (List.length (out++([([]:List UInt8)])):Int) - Int.toNat (i64 ((j:Int)+1))))) (out++([([]:List UInt8)]))):Int)) (zll l (λ x=>some x) n (List.set (List.take (Int.toNat (i64 ((j:Int)+1))) (out++([([]:List UInt8)]))++List.take (Nat.min (Int.toNat (List.length (out++([([]:List UInt8)])):Int) - Int.toNat (j:Int)) (Int.toNat (List.length (out++([([]:List UInt8)])):Int) - Int.toNat (i64 ((j:Int)+1)))) (List.drop (Int.toNat (j:Int)) (out++([([]:List UInt8)])))++List.drop (Int.toNat (i64 ((j:Int)+1))+(Nat.min (Int.toNat (List.length (out++([([]:List UInt8)])):Int) - Int.toNat (j:Int)) (Int.toNat (List.length (out++([([]:List UInt8)])):Int) - Int.toNat (i64 ((j:Int)+1))))) (out++([([]:List UInt8)]))) (Int.toNat (j:Int)) l[i]) (i64 ((i:Int)+1)))))))=some s/\SLC s/\(∀x,x∈s↔x∈l):=by
   intro hA
   have e2:i64 ((j:Int)+1)=((j+1:Nat):Int):=by rw[zfn (by omega)];omega
   obtain⟨q1,q2⟩:=ins_eq out j j1 ([]:List UInt8) l[i]
   have hlo:(out++[([]:List UInt8)]).length=out.length+1:=by simp
   rw[zah (by simp;omega)]
   simp only[e2,Int.toNat_natCast]
   rw[zah (by rw[hlo];omega),zah (by rw[hlo];omega),zah (by omega),zah (by rw[q1];omega),q2,zbl (by omega)]
   refine ih (i+1) n _ (by omega) (by omega) ?_ (by simp;omega) (λ x=> ?_)
   .have hsp:SLC (out.take j++out.drop j):=by rw[List.take_append_drop];exact hs
    obtain⟨p1,p2,p3⟩:=List.pairwise_append.1 hsp
    rw[SLC,List.append_assoc,List.pairwise_append]
    refine⟨p1, ?_,λ a ha b hb=> ?_⟩
    .simp only[List.singleton_append,List.pairwise_cons]
     refine⟨λ b hb=> ?_,p2⟩
     obtain⟨q,hq,rfl⟩:=List.getElem_of_mem hb
     rw[List.getElem_drop]
     simp only[List.length_drop]at hq
     have:=j3 (j+q) (by omega) (by omega) (by omega)
     rw[cmpC_anti out[j+q] l[i]];omega
    .simp only[List.singleton_append,List.mem_cons]at hb
     rcases hb with rfl|hb
     .exact hA a ha
     .exact p3 a ha b hb
   .rw[hmem, ←hm]
    have:x∈out↔x∈out.take j∨x∈out.drop j:=by rw[←List.mem_append,List.take_append_drop]
    rw[this]
    simp only[List.append_assoc,List.mem_append,List.mem_singleton]
    constructor
    .rintro (h|h|h) <;>simp[h]
    .rintro ((h|h)|h) <;>simp[h]
  by_cases h0:0<j
  .have hj1:j - 1<out.length:=by omega
   have e1:i64 ((j:Int) - 1)=((j - 1:Nat):Int):=by rw[zfn (by omega)];omega
   rw[if_pos (by omega),zah (by omega),e1,zah (by omega),zbv hj1,zbv hil]
   by_cases he:out[j - 1]=l[i]
   .rw[if_pos (decide_eq_true he),zbl (by omega)]
    refine ih (i+1) n out (by omega) (by omega) hs (by omega) (λ x=> ?_)
    rw[hmem, ←hm]
    exact⟨Or.inl,λ h=>h.elim id (λ h=>by rw[h, ←he];exact List.getElem_mem _)⟩
   .rw[if_neg (λ h=>he (of_decide_eq_true h))]
    have hlt:cmpC out[j - 1] l[i]<0:=by
     have h1:=j4 hj1 h0
     have h2:cmpC out[j - 1] l[i]≠0:=λ h=>he (cmpC_eq.1 h)
     omega
    refine go (λ a ha=> ?_)
    obtain⟨q,hq,rfl⟩:=List.getElem_of_mem ha
    simp only[List.length_take]at hq
    rw[List.getElem_take]
    by_cases e:q=j - 1
    .subst e;exact hlt
    .exact cmpC_trans (hpw q (j - 1) (by omega) hj1 (by omega)) hlt
  .rw[if_neg (by omega),if_neg (by simp),zbv hil]
   exact go (λ a ha=>by rw[show j=0 by omega]at ha;simp at ha)
theorem rSort (l:List (List UInt8)) (hl:l.length≤10000000000):m_ref9_Sort l=some (sortW l):=by
 have hFU:=zeo
 unfold m_ref9_Sort
 rw[zbq]
 obtain⟨s,s1,s2,s3⟩:=rSort_loop l hl l.length 0 FU [] (by omega) (by omega) List.Pairwise.nil (by simp) (by simp)
 rw[Int.natCast_zero]at s1
 rw[s1]
 obtain⟨t1,t2,_⟩:=sortW_spec l
 rw[slc_ext s2 t1 (λ x=>by rw[s3,t2])]
end
end Go.Proofs.YtloigebekdkijaaGreat
