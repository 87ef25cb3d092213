import Derived.Test.YtnambbcafhnhpaaGreatDoorQ3
namespace Go.Proofs.YtnambbcafhnhpaaGreatDoor
open Go.RowKit
set_option linter.unusedVariables false
set_option linter.unusedSimpArgs false
theorem aaE(a b:Nat)(ha:a<9223372036854775808)(hb:b<9223372036854775808):bits .andNot .i64 (a:Int) (b:Int)=((a^^^(a&&& b):Nat):Int):=by
 have h1:BitVec.ofInt 64 (a:Int)=BitVec.ofNat 64 a:=BitVec.ofInt_natCast ..
 have h2:BitVec.ofInt 64 (b:Int)=BitVec.ofNat 64 b:=BitVec.ofInt_natCast ..
 have e:bits .andNot .i64 (a:Int) (b:Int)=IntKind.i64.wrap ((BitVec.ofNat 64 a&&& ~~~ BitVec.ofNat 64 b).toNat:Int):=by
  rw[←h1,←h2];rfl
 have hand:a&&& b<2^63:=Nat.lt_of_le_of_lt Nat.and_le_left (by omega)
 have hx:a^^^(a&&& b)<2^63:=Nat.xor_lt_two_pow (by omega) hand
 have h0:BitVec.ofNat 64 a&&& ~~~ BitVec.ofNat 64 b=BitVec.ofNat 64 (a^^^(a&&& b)):=by
  apply BitVec.eq_of_getLsbD_eq
  intro i hi
  simp only[BitVec.getLsbD_and,BitVec.getLsbD_not,BitVec.getLsbD_ofNat,hi,decide_true,Bool.true_and,Nat.testBit_xor,Nat.testBit_and]
  cases a.testBit i<;>cases b.testBit i<;>rfl
 have hn:(BitVec.ofNat 64 (a^^^(a&&& b))).toNat=a^^^(a&&& b):=by rw[BitVec.toNat_ofNat];exact Nat.mod_eq_of_lt (by omega)
 rw[e,h0,hn,wrap_i64]<;>omega
def iB(d n:Nat)(b:Bool):Nat:=if b then d|||2^n else d^^^(d&&& 2^n)
theorem yJ {d n:Nat}(b:Bool)(hd:d<4294967296)(hn:n<32):iB d n b<4294967296:=by
 have hp:2^n<2^32:=Nat.pow_lt_pow_right (by omega) hn
 unfold iB
 split
 ·exact KR d n hd hn
 ·exact Nat.xor_lt_two_pow (n:=32) (by omega) (Nat.lt_of_le_of_lt Nat.and_le_left (by omega))
theorem ag0(d n:Nat)(b:Bool)(hd:d<4294967296)(hn:n<32):ce ((d:Int),(n:Int),b,())=some (((iB d n b:Nat):Int),(0:Int),()):=by
 have hp:2^n<2^32:=Nat.pow_lt_pow_right (by omega) hn
 have h1:bf (d:Int) 0 4294967295=true:=bl.2 ⟨by omega,by omega⟩
 have h2:bf (n:Int) 0 31=true:=bl.2 ⟨by omega,by omega⟩
 have hneg:¬((n:Int)<0):=by omega
 have hs:=BA n hn
 unfold ce nU nT
 simp only[oV,h1,h2,Bool.not_true]
 cases b with
 |true=>
  simp only[if_neg hneg,hs,WT d (2^n) (by omega) (by omega)]
  rfl
 |false=>
  unfold JD
  simp only[if_neg hneg,hs,aaE d (2^n) (by omega) (by omega)]
  rfl
theorem ag1(d n:Nat)(b:Bool)(hd:d<4294967296)(hn:n<32):kY ((d:Int),(n:Int),b,())=some (((iB d n b:Nat):Int),()):=by
 have hp:2^n<2^32:=Nat.pow_lt_pow_right (by omega) hn
 have hu:IntKind.u64.wrap (n:Int)=(n:Int):=Qm (by omega)
 have hneg:¬((n:Int)<0):=by omega
 have hs:=BA n hn
 have hh:ph ((d:Int),(n:Int),())=some (qa d n,()):=Uv d n hd hn
 rw[vl]at hh
 have hx:=yS d (2^n) (by omega) (by omega)
 unfold kY iB
 simp only[hh,hu,if_neg hneg,hs,hx]
 cases ht:d.testBit n<;>cases b<;>simp only[beq_self_eq_true,Bool.false_eq_true,if_false,if_true,show(false==true)=false from rfl,show(true==false)=false from rfl]<;>congr 3<;>apply Nat.eq_of_testBit_eq<;>intro i<;>simp only[Nat.testBit_xor,Nat.testBit_and,Nat.testBit_or,Nat.testBit_two_pow]<;>by_cases hi:n=i
 all_goals first|(subst hi;simp[ht];done)|(simp[hi];done)
def sA(st:ao.T)(dur slots cJ:Int):ao.T:=match(IntKind.i64.wrap (st.2.2.2.1+(1:Int))==slots)with
 |true=>(Int.tmod (IntKind.i64.wrap (st.1+dur)) 65536,st.2.1,Int.tmod (IntKind.i64.wrap (st.2.2.1+(1:Int))) cJ,(0:Int),st.2.2.2.2.1,())
 |false=>(Int.tmod (IntKind.i64.wrap (st.1+dur)) 65536,st.2.1,st.2.2.1,IntKind.i64.wrap (st.2.2.2.1+(1:Int)),st.2.2.2.2.1,())
theorem ahx(st:ao.T)(dur slots cJ:Int)(hr:1≤cJ):pR (st,dur,slots,cJ,())=some (sA st dur slots cJ,()):=by
 have h0:¬cJ=0:=by omega
 unfold pR sA
 simp only[if_neg h0]
 cases IntKind.i64.wrap (st.2.2.2.1+(1:Int))==slots<;>rfl
theorem ahy(st:ao.T)(dur slots cJ:Int)(hst:co st=true)(hd:0≤dur∧dur≤65535)(hs:1≤slots∧slots≤256)(hr:1≤cJ∧cJ≤16)(h1:st.2.2.2.1<slots)(h2:st.2.2.1<cJ):i6 (st,dur,slots,cJ,())=some (sA st dur slots cJ,(0:Int),()):=by
 have e0:gU ((st.1,st.2.1,st.2.2.1,st.2.2.2.1,st.2.2.2.2.1,()),())=some (true,()):=by rw[←hst];exact KM (st,())
 have i1:bf dur 0 65535=true:=bl.2 hd
 have i2:bf slots 1 256=true:=bl.2 hs
 have i3:bf cJ 1 16=true:=bl.2 hr
 have h0:¬cJ=0:=by omega
 have n1:¬st.2.2.2.1≥slots:=Int.not_le.2 h1
 have n2:¬st.2.2.1≥cJ:=Int.not_le.2 h2
 unfold i6 sA
 simp only[e0,oV,i1,i2,i3,Bool.not_true,decide_eq_false n1,decide_eq_false n2,if_neg h0]
 cases IntKind.i64.wrap (st.2.2.2.1+(1:Int))==slots<;>rfl
theorem Ss {m:aA.T}{st:ao.T}(h:bK m=true)(hb:bc m st=true):∃(a:Nat) (ha:a<m.2.2.1.length),st.2.1=(a:Int)∧0≤st.2.2.1∧st.2.2.1<m.2.2.1[a].1∧0≤st.2.2.2.1∧st.2.2.2.1<m.2.2.1[a].2.1∧(1≤m.2.2.1[a].1∧m.2.2.1[a].1≤16)∧(1≤m.2.2.1[a].2.1∧m.2.2.1[a].2.1≤256):=by
 obtain⟨_,hn,hm,hs,_⟩:=kG h
 have hg:=(gI hm).2
 unfold bc at hb
 rw[Bool.and_eq_true]at hb
 obtain⟨a,b,c,d,ea,eb,ec,ed,ha,hb',hc',hd⟩:=Aq hb.1
 have hb2:=hb.2
 rw[ea,eb,ec,ed]at hb2
 rw[Int.toNat_natCast]at hb2
 by_cases hal:a<m.2.2.1.length
 ·simp only[List.getElem?_eq_getElem hal,Bool.and_eq_true,decide_eq_true_eq]at hb2
  have hgi:=hg _ (List.getElem_mem hal)
  obtain⟨h1,h2,_⟩:=hb2
  exact⟨a,hal,ea,by rw[eb];exact Int.natCast_nonneg _,by rw[eb];exact h1,by rw[ec];exact Int.natCast_nonneg _,by rw[ec];exact h2,⟨hgi.1.1,Int.le_trans hgi.1.2 (by decide)⟩,⟨hgi.2.1,Int.le_trans hgi.2.2 (by decide)⟩⟩
 ·simp only[List.getElem?_eq_none (Nat.not_lt.1 hal)]at hb2
  cases hb2
def kH(st:ao.T)(d:Int):ao.T:=(st.1,st.2.1,st.2.2.1,st.2.2.2.1,d,())
def F9(m:aA.T)(st:ao.T)(d:Int):ao.T:=match m.2.2.1[st.2.1.toNat]? with
 |none=>st
 |some v=>sA (kH st d) (cp m st).2.2.2.1 v.2.1 v.1
theorem As {d:cq.T}(h:og d=true):∃D:Nat,d.2.2.2.1=(D:Int)∧D≤1000:=by
 obtain⟨(a:Int),(k:Int),(n:Int),(t:Int),(c:Bool),⟨⟩⟩:=d
 unfold og at h
 simp only[Bool.and_eq_true]at h
 obtain⟨_,h2,h3,_,h5⟩:=h
 have hsz:=Ao h3
 have hbn:=F3 k n hsz.1 hsz.2
 have h5:=bl.1 h5
 have hc:An k n=11+10*(oe k n+3):=rfl
 rw[hc]at h5
 generalize oe k n=bn at hbn h5
 have hw:IntKind.i64.wrap (11+10*(bn+3)+20)=11+10*(bn+3)+20:=by rw[wrap_i64]<;>omega
 rw[hw]at h5
 exact⟨t.toNat,(Int.toNat_of_nonneg (show(0:Int)≤t by omega)).symm,by omega⟩
theorem Tj(m:aA.T)(st:ao.T)(d:Nat)(h:bK m=true)(hb:bc m st=true)(hd:d<4294967296):
  nI (m,kH st (d:Int),())=some (F9 m st (d:Int),())∧bX (m,kH st (d:Int),())=some (F9 m st (d:Int),()):=by
 obtain⟨a,ha,ea,b0,b1,c0,c1,hr,hs⟩:=Ss h hb
 obtain⟨q1,q2,q3⟩:=fL m st h hb
 obtain⟨D,hD,hD2⟩:=As q3
 have q1:dJ (m,kH st (d:Int),())=some (cp m st,()):=q1
 have q2:aN (m,kH st (d:Int),())=some (cp m st,()):=q2
 have hst:co (kH st (d:Int))=true:=by
  have h0:=wG hb
  unfold co at h0 ⊢
  simp only[Bool.and_eq_true]at h0 ⊢
  exact⟨h0.1,bl.2 ⟨by show(0:Int)≤(d:Int);omega,by show(d:Int)≤4294967295;omega⟩⟩
 have hi:aI m.2.2.1 st.2.1=some m.2.2.1[a]:=by rw[ea];exact aJ ha
 have hn:F9 m st (d:Int)=sA (kH st (d:Int)) (D:Int) m.2.2.1[a].2.1 m.2.2.1[a].1:=by
  unfold F9
  rw[ea,Int.toNat_natCast,List.getElem?_eq_getElem ha,hD]
 have a1:=ahx (kH st (d:Int)) (D:Int) m.2.2.1[a].2.1 m.2.2.1[a].1 hr.1
 have a2:=ahy (kH st (d:Int)) (D:Int) m.2.2.1[a].2.1 m.2.2.1[a].1 hst ⟨by omega,by omega⟩ hs hr c1 b1
 have e1:nI (m,kH st (d:Int),())=ac (aI m.2.2.1 st.2.1) fun v1=>ac (aI m.2.2.1 st.2.1) fun v2=>match dJ (m,kH st (d:Int),())with
  |none=>none
  |some v3=>match pR (kH st (d:Int),v3.1.2.2.2.1,v1.2.1,v2.1,())with
   |none=>none
   |some v4=>some (v4.1,()):=rfl
 have e2:bX (m,kH st (d:Int),())=ac (aI m.2.2.1 st.2.1) fun v1=>aD (match aN (m,kH st (d:Int),())with
  |none=>none
  |some v2=>be (match i6 (kH st (d:Int),v2.1.2.2.2.1,v1.2.1,v1.1,())with
   |none=>none
   |some v3=>some (v3.1,()))) (match aN (m,kH st (d:Int),())with
  |none=>none
  |some v2=>match i6 (kH st (d:Int),v2.1.2.2.2.1,v1.2.1,v1.1,())with
   |none=>none
   |some v3=>some (v3.1,())):=rfl
 rw[e1,e2,hi,q1,q2]
 simp only[ac,hD,a1,a2,iA,cY,hn]
 exact⟨trivial,trivial⟩
end Go.Proofs.YtnambbcafhnhpaaGreatDoor
namespace Go.Proofs.YtnambbcafhnhpaaGreatDoor
open Go.RowKit
set_option linter.unusedVariables false
set_option linter.unusedSimpArgs false
theorem nb {b:Bool}(h:b=false):¬b=true:=by rw[h];decide
def b7(m:aA.T)(st:ao.T)(fill req:Int):bp.T:=((cp m st).2.1,req,(if((cp m st).2.1 != (0:Int))=true then st else fK),List.replicate (cp m st).2.2.1.toNat fill,())
theorem Kr {d:cq.T}(h:og d=true):∃k:Nat,d.2.2.1=(k:Int)∧k≤1000:=by
 unfold og at h
 simp only[Bool.and_eq_true]at h
 have hsz:=Ao h.2.2.1
 obtain⟨z0,z1⟩:=hsz
 have e:((d.2.2.1.toNat:Nat):Int)=d.2.2.1:=Int.toNat_of_nonneg z0
 have h2:((d.2.2.1.toNat:Nat):Int)≤1000:=by rw[e];exact z1
 exact⟨d.2.2.1.toNat,e.symm,by omega⟩
theorem yK {m:aA.T}{st:ao.T}(h:bK m=true)(hb:bc m st=true)(fill req:Int):(b7 m st fill req).2.2.2.1.length≤1000:=by
 obtain⟨_,_,hq⟩:=fL m st h hb
 obtain⟨k,hk,hk2⟩:=Kr hq
 show(List.replicate (cp m st).2.2.1.toNat fill).length≤1000
 rw[hk,List.length_replicate]
 omega
theorem W6(m:aA.T)(st:ao.T)(fill req:Int)(h:bK m=true)(hb:bc m st=true):yw (m,st,fill,req,())=some (b7 m st fill req,()):=by
 obtain⟨hd,_,hq⟩:=fL m st h hb
 obtain⟨k,hk,hk2⟩:=Kr hq
 have he:=yU k fill (by omega)
 have hst:∀z:Int,fD (z,())=some ((z != (0:Int)),()):=fun z=>rfl
 unfold yw b7
 simp only[hd,hk,he,hst,Int.toNat_natCast,iA,cY]
 cases ((cp m st).2.1 != (0:Int))<;>rfl
theorem Zc(q:Int)(m0:aA.T)(st0:ao.T)(z:bp.T)(a b:Int)(s:ao.T)(n:Nat)(hn:n≤1000):∀(k i:Nat) (l:List Int),i+k=n→l.length=n→(∀j (hj:j<l.length),j<i→l[j]=q)→
  ak fG (q,m0,st0,z,(a,b,s,l,()),(n:Int),(i:Int),())=some (.inl (m0,st0,z,(a,b,s,List.replicate n q,()),()))
 |0,i,l,hi,hl,hq=>by
  have hi:i=n:=by omega
  subst hi
  have e:l=List.replicate i q:=by
   apply List.ext_getElem
   ·rw[hl,List.length_replicate]
   ·intro j h1 h2
    rw[hq j h1 (by omega),List.getElem_replicate]
  subst e
  rw[aw]
  simp only[fG,bQ]
 |k+1,i,l,hi,hl,hq=>by
  have hlt:i<l.length:=by omega
  have hlt2:i<n:=by omega
  have ih:=Zc q m0 st0 z a b s n hn k (i+1) (l.set i q) (by omega) (by rw[List.length_set];exact hl) (fun j hj h1=>by
   rw[List.getElem_set]
   split
   ·rfl
   ·exact hq j (by simpa using hj) (by omega))
  have hnx:IntKind.i64.wrap ((i:Int)+1)=((i+1:Nat):Int):=by rw[wrap_i64]<;>omega
  have hget:l[i]? =some l[i]:=List.getElem?_eq_getElem hlt
  rw[aw]
  simp only[fG,bH hlt2,aJ hlt,ac,Int.toNat_natCast,hget,hnx]
  exact ih
theorem KX(m:aA.T)(st:ao.T)(hz:ex m):ej (m,st,())=some ((match bK m with|false=>1|true=>match bc m st with|false=>2|true=>0:Int),()):=by
 have hM:la (m,())=_:=Qy m hz
 have e1:ej (m,st,())=match la (m,())with
  |none=>none
  |some v1=>match(!v1.1)with
   |true=>some ((1:Int),())
   |false=>match lX (m,st,())with
    |none=>none
    |some v2=>match(!v2.1)with
     |true=>some ((2:Int),())
     |false=>some ((0:Int),()):=rfl
 rw[e1,hM]
 rcases Bool.eq_false_or_eq_true (bK m)with h1|h1<;>simp only[h1,Bool.not_true,Bool.not_false]
 have hB:=Uy m st h1
 simp only[hB]
 rcases Bool.eq_false_or_eq_true (bc m st)with h2|h2<;>simp only[h2,Bool.not_true,Bool.not_false]
theorem afo(m:aA.T)(st:ao.T)(hz:ex m):Bh (m,st,())=some ((match bK m with|false=>1|true=>match bc m st with|false=>2|true=>0:Int),()):=by
 have hM:pr (m,())=_:=ab6 m hz
 have e1:Bh (m,st,())=match pr (m,())with
  |none=>none
  |some v1=>match(!v1.1)with
   |true=>some ((1:Int),())
   |false=>match pO (m,st,())with
    |none=>none
    |some v2=>match(!v2.1)with
     |true=>some ((2:Int),())
     |false=>some ((0:Int),()):=rfl
 rw[e1,hM]
 rcases Bool.eq_false_or_eq_true (bK m)with h1|h1<;>simp only[h1,Bool.not_true,Bool.not_false]
 have hB:=ahw m st h1
 simp only[hB]
 rcases Bool.eq_false_or_eq_true (bc m st)with h2|h2<;>simp only[h2,Bool.not_true,Bool.not_false]
theorem adR(d:cq.T)(st:ao.T)(k:Nat)(hk:d.2.2.1=(k:Int))(hk2:k≤1000):nd (d,st,())=some ((d.2.1,(0:Int),(if(d.2.1 != (0:Int))=true then st else fK),List.replicate k (0:Int),()),()):=by
 have hst:∀z:Int,gC (z,())=some ((z != (0:Int)),()):=fun z=>rfl
 unfold nd
 simp only[hst,hk,Int.toNat_natCast]
 have hk0:(0:Int)≤(k:Int)∧(k:Int)≤(k:Int):=⟨by omega,by omega⟩
 simp only[if_pos hk0]
 first|rw[aU (by omega),aU (by omega)]|rw[aU (by omega)]
 simp only[iA,cY]
 cases (d.2.1 != (0:Int))<;>rfl
theorem Ga(m:aA.T)(st:ao.T)(fill req:Int)(hz:ex m)(h:bK m=true)(hb:bc m st=true)(hf:bf fill 0 255=true)(hq:bf req 0 7=true):
  ql (m,st,fill,req,())=some (if c7 m st (b7 m st fill req)=true then(b7 m st fill req,(0:Int),())else(dX,(5:Int),())):=by
 obtain⟨_,hd,hqd⟩:=fL m st h hb
 obtain⟨k,hk,hk2⟩:=Kr hqd
 have hl:=KX m st hz
 rw[h,hb]at hl
 have he:=adR (cp m st) st k hk hk2
 have hl9:=Zc fill m st dX (cp m st).2.1 req (if((cp m st).2.1 != (0:Int))=true then st else fK) k hk2 k 0 (List.replicate k (0:Int)) (by omega) (by simp) (fun j hj h1=>by omega)
 have hfl:=yK h hb fill req
 have hs:=ace m st (b7 m st fill req) h hb (by omega)
 have hfr:b7 m st fill req=((cp m st).2.1,req,(if((cp m st).2.1 != (0:Int))=true then st else fK),List.replicate k fill,()):=by
  unfold b7
  rw[hk,Int.toNat_natCast]
 rw[hfr]at hs ⊢
 have k0:((0:Int) != 0)=false:=rfl
 have hlen:((List.replicate k (0:Int)).length:Int)=(k:Int):=by rw[List.length_replicate]
 have hl9:ak fG (fill,m,st,((0:Int),(0:Int),((0:Int),(0:Int),(0:Int),(0:Int),(0:Int),()),([]:List Int),()),((cp m st).2.1,req,(if((cp m st).2.1 != (0:Int))=true then st else fK),List.replicate k (0:Int),()),(k:Int),(0:Int),())=_:=hl9
 have hl:ej (m,st,())=some ((0:Int),()):=hl
 unfold ql
 simp only[hl,k0,oV,hf,hq,Bool.not_true,hd,he,hlen,hl9,hs]
 cases c7 m st ((cp m st).2.1,req,(if((cp m st).2.1 != (0:Int))=true then st else fK),List.replicate k fill,())<;>simp only[Bool.not_true,Bool.not_false,cY,iA,if_true,Bool.false_eq_true,if_false]<;>rfl
noncomputable def ib(m:aA.T)(st:ao.T)(x:bI.T):List Int:=
 if c7 m st (b7 m st x.1 x.2.1)=true then cj (d5 m st (b7 m st x.1 x.2.1))
 else if c7 m st (b7 m st x.1 0)=true then cj (d5 m st (b7 m st x.1 0))
 else List.replicate (8*(cp m st).2.2.2.1.toNat) 1
theorem Gb {m:aA.T}{st:ao.T}{f:bp.T}(h:bK m=true)(hb:bc m st=true)(hs:c7 m st f=true):jL m st f=0:=by
 unfold jL
 rw[h,hb,hs]
theorem afp(m:aA.T)(st:ao.T)(x:bI.T)(hz:ex m)(h:bK m=true)(hb:bc m st=true)(hx:bf x.1 0 255=true)(hq:bf x.2.1 0 7=true):Pz (m,st,x,())=some (ib m st x,()):=by
 obtain⟨_,hd,hqd⟩:=fL m st h hb
 obtain⟨D,hD,hD2⟩:=As hqd
 have hl:=KX m st hz
 rw[h,hb]at hl
 have hl:ej (m,st,())=some ((0:Int),()):=hl
 have f1:=Ga m st x.1 x.2.1 hz h hb hx hq
 have f2:=Ga m st x.1 0 hz h hb hx (by decide)
 have k0:((0:Int) != 0)=false:=rfl
 have k1:((0:Int)==0)=true:=rfl
 have k5:((5:Int)==0)=false:=rfl
 have hw:IntKind.i64.wrap ((8:Int)*(D:Int))=((8*D:Nat):Int):=by rw[wrap_i64]<;>omega
 have hh:=F7 (8*D) (by omega)
 have sl:ua (m,st,())=some (List.replicate (8*D) (1:Int),(0:Int),()):=by
  unfold ua
  simp only[hl,k0,hd,hD,hw,hh]
 have two:([x.2.1,(0:Int)].length:Int)=2:=rfl
 have i0:aI [x.2.1,(0:Int)] (0:Int)=some x.2.1:=rfl
 have i1:aI [x.2.1,(0:Int)] (1:Int)=some (0:Int):=rfl
 have g0: [x.2.1,(0:Int)][(0:Int).toNat]? =some x.2.1:=rfl
 have g1: [x.2.1,(0:Int)][(1:Int).toNat]? =some (0:Int):=rfl
 have n1:IntKind.i64.wrap ((0:Int)+1)=1:=by decide
 have n2:IntKind.i64.wrap ((1:Int)+1)=2:=by decide
 have d0:decide ((0:Int)<2)=true:=by decide
 have d1:decide ((1:Int)<2)=true:=by decide
 have d2:decide ((2:Int)<2)=false:=by decide
 have sent1:∀q:Int,c7 m st (b7 m st x.1 q)=true→kp (m,st,b7 m st x.1 q,())=some (cj (d5 m st (b7 m st x.1 q)),(0:Int),()):=fun q hs=>by
  have:=Zb m st (b7 m st x.1 q) hz (by have:=yK h hb x.1 q;omega)
  rw[if_pos (Gb h hb hs)]at this
  exact this
 have key:ak jl (m,st,x,[x.2.1,(0:Int)],(2:Int),(0:Int),())=some (if c7 m st (b7 m st x.1 x.2.1)=true then .inr (cj (d5 m st (b7 m st x.1 x.2.1)),())else if c7 m st (b7 m st x.1 0)=true then .inr (cj (d5 m st (b7 m st x.1 0)),())else .inl (m,st,())):=by
  rw[aw]
  rcases Bool.eq_false_or_eq_true (c7 m st (b7 m st x.1 x.2.1))with s1|s1
  ·rw[if_pos s1]at f1 ⊢
   simp only[jl,d0,i0,ac,g0,f1,k1,sent1 _ s1]
  ·rw[if_neg (nb s1)]at f1 ⊢
   simp only[jl,d0,i0,ac,g0,f1,k5,n1]
   rw[aw]
   rcases Bool.eq_false_or_eq_true (c7 m st (b7 m st x.1 0))with s2|s2
   ·rw[if_pos s2]at f2 ⊢
    simp only[jl,d1,i1,ac,g1,f2,k1,sent1 _ s2]
   ·rw[if_neg (nb s2)]at f2 ⊢
    simp only[jl,d1,i1,ac,g1,f2,k5,n2]
    rw[aw]
    simp only[jl,d2]
 have key':ak jl (m,st,x,[x.2.1,(0:Int)],([x.2.1,(0:Int)].length:Int),(0:Int),())=_:=key
 unfold Pz ib
 simp only[key']
 rcases Bool.eq_false_or_eq_true (c7 m st (b7 m st x.1 x.2.1))with s1|s1
 ·rw[if_pos s1,if_pos s1]
 ·rw[if_neg (nb s1),if_neg (nb s1)]
  rcases Bool.eq_false_or_eq_true (c7 m st (b7 m st x.1 0))with s2|s2
  ·rw[if_pos s2,if_pos s2]
  ·rw[if_neg (nb s2),if_neg (nb s2)]
   simp only[sl,hD,Int.toNat_natCast]
theorem afq(m:aA.T)(st:ao.T)(x:bI.T)(hz:ex m)(h:bK m=true)(hb:bc m st=true):ui (m,st,x,())=some (ib m st x,()):=by
 obtain⟨hd,_,hqd⟩:=fL m st h hb
 obtain⟨D,hD,hD2⟩:=As hqd
 have f1:=W6 m st x.1 x.2.1 h hb
 have f2:=W6 m st x.1 0 h hb
 have hw:IntKind.i64.wrap ((8:Int)*(D:Int))=((8*D:Nat):Int):=by rw[wrap_i64]<;>omega
 have hh:=yU (8*D) 1 (by omega)
 have i0:aI [x.2.1,(0:Int)] (0:Int)=some x.2.1:=rfl
 have i1:aI [x.2.1,(0:Int)] (1:Int)=some (0:Int):=rfl
 have g0: [x.2.1,(0:Int)][(0:Int).toNat]? =some x.2.1:=rfl
 have g1: [x.2.1,(0:Int)][(1:Int).toNat]? =some (0:Int):=rfl
 have n1:IntKind.i64.wrap ((0:Int)+1)=1:=by decide
 have n2:IntKind.i64.wrap ((1:Int)+1)=2:=by decide
 have d0:decide ((0:Int)<2)=true:=by decide
 have d1:decide ((1:Int)<2)=true:=by decide
 have d2:decide ((2:Int)<2)=false:=by decide
 have sb:∀q:Int,oz (m,st,b7 m st x.1 q,())=some (c7 m st (b7 m st x.1 q),()):=fun q=>agX m st _ h hb (by have:=yK h hb x.1 q;omega)
 have sent1:∀q:Int,c7 m st (b7 m st x.1 q)=true→uh (m,st,b7 m st x.1 q,())=some (d5 m st (b7 m st x.1 q),())∧pP (d5 m st (b7 m st x.1 q),())=some (cj (d5 m st (b7 m st x.1 q)),()):=fun q hs=>by
  have hc:=Gb h hb hs
  exact⟨Yl m st _ hz hc,acd _ (by have:=(N4 hc).1;omega)⟩
 have key:ak eo (m,st,x,[x.2.1,(0:Int)],(0:Int),())=some (if c7 m st (b7 m st x.1 x.2.1)=true then .inr (cj (d5 m st (b7 m st x.1 x.2.1)),())else if c7 m st (b7 m st x.1 0)=true then .inr (cj (d5 m st (b7 m st x.1 0)),())else .inl (m,st,())):=by
  rw[aw]
  rcases Bool.eq_false_or_eq_true (c7 m st (b7 m st x.1 x.2.1))with s1|s1
  ·rw[if_pos s1]
   simp only[eo,d0,i0,ac,g0,f1,sb,s1,(sent1 _ s1).1,(sent1 _ s1).2,iA]
  ·rw[if_neg (nb s1)]
   simp only[eo,d0,i0,ac,g0,f1,sb,s1,n1,iA]
   rw[aw]
   rcases Bool.eq_false_or_eq_true (c7 m st (b7 m st x.1 0))with s2|s2
   ·rw[if_pos s2]
    simp only[eo,d1,i1,ac,g1,f2,sb,s2,(sent1 _ s2).1,(sent1 _ s2).2,iA]
   ·rw[if_neg (nb s2)]
    simp only[eo,d1,i1,ac,g1,f2,sb,s2,n2,iA]
    rw[aw]
    simp only[eo,d2]
 unfold ui ib
 simp only[key]
 rcases Bool.eq_false_or_eq_true (c7 m st (b7 m st x.1 x.2.1))with s1|s1
 ·rw[if_pos s1,if_pos s1]
 ·rw[if_neg (nb s1),if_neg (nb s1)]
  rcases Bool.eq_false_or_eq_true (c7 m st (b7 m st x.1 0))with s2|s2
  ·rw[if_pos s2,if_pos s2]
  ·rw[if_neg (nb s2),if_neg (nb s2)]
   simp only[hd,hD,hw,hh,Int.toNat_natCast]
end Go.Proofs.YtnambbcafhnhpaaGreatDoor
namespace Go.Proofs.YtnambbcafhnhpaaGreatDoor
open Go.RowKit
set_option linter.unusedVariables false
set_option linter.unusedSimpArgs false
theorem adS {l:List Int}(h:cG l=true):∀v ∈ l,v=0∨v=1:=by
 intro v hv
 obtain⟨i,hi,rfl⟩:=List.getElem_of_mem hv
 exact Ag h hi
theorem Su {l:List Int}(h1:l.length≤8192)(h2:∀v ∈ l,v=0∨v=1):cG l=true:=YO h1 fun i hi=>h2 _ (List.getElem_mem hi)
theorem acg {g:Int→Int}(hg:∀v,v=0∨v=1→g v=0∨g v=1):∀(k i:Nat) (l:List Int),(∀v ∈ l,v=0∨v=1)→i+k≤l.length→∀v ∈ chg g k i l,v=0∨v=1
 |0,i,l,h,_=>h
 |k+1,i,l,h,hi=>by
  rw[chg]
  refine acg hg k (i+1) _ (fun v hv=> ?_) (by rw[List.length_set];omega)
  rcases List.mem_or_eq_of_mem_set hv with hv|rfl
  ·exact h v hv
  ·refine hg _ (h _ ?_)
   have hlt:i<l.length:=by omega
   rw[List.getD_eq_getElem?_getD,List.getElem?_eq_getElem hlt]
   exact List.getElem_mem hlt
theorem KY {g:Int→Int}(hg:∀v,v=0∨v=1→g v=0∨g v=1){l:List Int}(h:∀v ∈ l,v=0∨v=1)(a b:Nat):∀v ∈ lq g l a b,v=0∨v=1:=by
 unfold lq
 by_cases hab:min a l.length≤min b l.length
 ·exact acg hg _ _ l h (by omega)
 ·have:min b l.length-min a l.length=0:=by omega
  rw[this]
  exact h
theorem Zd:∀v,v=0∨v=1→l8 v=0∨l8 v=1:=by
 rintro v (rfl|rfl)
 ·exact .inr (by decide)
 ·exact .inl (by decide)
theorem ach {k a c v:Int}(h:gz (k,a,c,v,())=true):(k=4∨k=6)→v=0∨v=1:=by
 intro hk
 unfold gz at h
 simp only[Bool.and_eq_true]at h
 have h4:=h.2.2.2
 have hv:F8 k=true:=by
  unfold F8
  rcases hk with rfl|rfl<;>rfl
 rw[hv]at h4
 have:=bl.1 h4
 omega
theorem aaF {l:List Int}{f:bk.T}(h:cG l=true)(hf:gz f=true):cG (ez l f)=true:=by
 have h01:=adS h
 refine Su (Ko l (dS h) f) ?_
 obtain⟨(k:Int),(a:Int),(c:Int),(v:Int),⟨⟩⟩:=f
 obtain⟨hk,_,_⟩:=C3 hf
 have hv:=ach hf
 unfold ez
 split
 ·exact KY Zd h01 _ _
 ·split
  ·exact KY Zd h01 _ _
  ·split
   ·intro u hu
    rcases List.mem_append.1 hu with hu|hu
    ·exact h01 u (List.mem_of_mem_take hu)
    ·exact h01 u (List.mem_of_mem_drop hu)
   ·split
    ·rename_i h4
     have h4:k=4:=h4
     intro u hu
     have hu:=List.mem_of_mem_take hu
     split at hu
     ·rcases List.mem_append.1 hu with hu|hu
      ·rcases List.mem_append.1 hu with hu|hu
       ·exact h01 u (List.mem_of_mem_take hu)
       ·rw[List.mem_replicate]at hu
        rw[hu.2]
        exact hv (.inl h4)
      ·exact h01 u (List.mem_of_mem_drop hu)
     ·exact h01 u hu
    ·split
     ·exact KY (fun _ _=>.inr rfl) h01 _ _
     ·rename_i n1 n2 n3 n4 n5
      have h6:k=6:=by
       have n1:¬k=1:=n1
       have n2:¬k=2:=n2
       have n3:¬k=3:=n3
       have n4:¬k=4:=n4
       have n5:¬k=5:=n5
       omega
      exact KY (fun _ _=>hv (.inr h6)) h01 _ _
theorem oN {s:List bk.T}(hs:eR s=true){l:List Int}(h:cG l=true):cG (gc l s)=true:=by
 have hall:∀f ∈ s,gz f=true:=by
  unfold eR at hs
  simp only[Bool.and_eq_true,List.all_eq_true]at hs
  exact fun f hf=>by first|exact hs.1 f hf|exact hs.2 f hf
 exact s5 (P:=fun z:List Int=>cG z=true) s l (fun z f hf hz=>aaF hz (hall f hf)) h
theorem Ks {m:aA.T}{st:ao.T}(x:bI.T)(h:bK m=true)(hb:bc m st=true):cG (ib m st x)=true:=by
 obtain⟨_,_,hqd⟩:=fL m st h hb
 obtain⟨D,hD,hD2⟩:=As hqd
 have cells:∀f,c7 m st f=true→cG (cj (d5 m st f))=true:=fun f hs=>by
  obtain⟨c1,c2⟩:=N4 (Gb h hb hs)
  refine Su (by rw[rC];omega) fun v hv=> ?_
  unfold cj at hv
  obtain⟨c,hc,hv⟩:=List.mem_flatMap.1 hv
  rw[List.mem_replicate]at hv
  rw[hv.2]
  exact c2 c hc
 unfold ib
 split
 ·exact cells _ (by assumption)
 ·split
  ·exact cells _ (by assumption)
  ·refine Su (by rw[hD,Int.toNat_natCast,List.length_replicate];omega) fun v hv=> ?_
   rw[List.mem_replicate]at hv
   exact .inr hv.2
noncomputable def kb(x:bI.T):Bool:=bf x.1 0 255&&bf x.2.1 0 7&&eR x.2.2.1&&eR x.2.2.2.1
def uu(x:bI.T):Prop:=x.2.2.1.length≤1099511627776∧x.2.2.2.1.length≤1099511627776
theorem Ze(x:bI.T)(h:uu x):uZ (x,())=some (kb x,()):=by
 unfold uZ kb
 simp only[lG,Tg x.2.2.1 h.1,Tg x.2.2.2.1 h.2]
 cases bf x.1 0 255<;>cases bf x.2.1 0 7<;>cases eR x.2.2.1<;>cases eR x.2.2.2.1<;>rfl
theorem Zf(x:bI.T)(h:uu x):r7 (x,())=some (kb x,()):=by
 unfold r7 kb
 simp only[oV,Th x.2.2.1 h.1,Th x.2.2.2.1 h.2]
 cases bf x.1 0 255<;>cases bf x.2.1 0 7<;>cases eR x.2.2.1<;>cases eR x.2.2.2.1<;>rfl
noncomputable def iU(m:aA.T)(st:ao.T)(l:List bI.T):Int:=match bK m with
 |false=>1
 |true=>match bc m st with
  |false=>2
  |true=>if(l.length:Int)>40 then 3 else if l.all kb then 0 else 5
theorem adT(m:aA.T)(st:ao.T)(l:List bI.T)(hz:ex m)(hl:l.length≤1048576)(hs:∀x ∈ l,uu x):vA (m,st,l,())=some (iU m st l,()):=by
 have hk:=KX m st hz
 have hc:=Um l (Nat.le_trans hl (by omega)) rO (fun x=> !kb x) (fun i h=>by
  have hf:=Zf l[i] (hs _ (List.getElem_mem h))
  have e0:rO (l[i],())=match r7 (l[i],())with
   |none=>none
   |some v1=>some ((!v1.1),()):=rfl
  rw[e0,hf])
 have hany:l.any (fun x=> !kb x)= !l.all kb:=by rw[List.all_eq_not_any_not,Bool.not_not]
 unfold vA iU
 rcases Bool.eq_false_or_eq_true (bK m)with h1|h1<;>simp only[h1]at hk ⊢
 ·rcases Bool.eq_false_or_eq_true (bc m st)with h2|h2<;>simp only[h2]at hk ⊢
  ·have k0:((0:Int) != 0)=false:=rfl
   simp only[hk,k0]
   by_cases h3:(l.length:Int)>40
   ·simp only[decide_eq_true h3,if_pos h3]
   ·simp only[decide_eq_false h3,if_neg h3,hc,hany]
    cases l.all kb<;>rfl
  ·have k0:((2:Int) != 0)=true:=rfl
   simp only[hk,k0]
 ·have k0:((1:Int) != 0)=true:=rfl
  simp only[hk,k0]
theorem Zg(l:List bI.T)(c:Int)(hc:c≠0)(i:Nat)(hl:l.length≤1048576)(hi:i≤l.length):ak cX (l,c,(i:Int),())=some (.inl (c,())):=by
 have hq:(c==0)=false:=by simpa using hc
 rw[aw]
 by_cases h:i<l.length
 ·simp only[cX,bH h,hq]
 ·have:i=l.length:=by omega
  subst this
  simp only[cX,bQ]
theorem Zh(l:List bI.T)(hl:l.length≤1048576)(hs:∀x ∈ l,uu x):∀(k i:Nat),i+k=l.length→ak cX (l,(0:Int),(i:Int),())=some (.inl ((if(l.drop i).all kb then(0:Int)else 5),()))
 |0,i,hi=>by
  have hi:i=l.length:=by omega
  subst hi
  rw[aw]
  simp only[cX,bQ,List.drop_length,List.all_nil,if_true]
 |k+1,i,hi=>by
  have h:i<l.length:=by omega
  have hb:=Ze l[i] (hs _ (List.getElem_mem h))
  have k0:((0:Int)==0)=true:=rfl
  have ih:=Zh l hl hs k (i+1) (by omega)
  have i5:=Zg l 5 (by decide) (i+1) hl (by omega)
  rw[aw,List.drop_eq_getElem_cons h,List.all_cons]
  simp only[cX,bH h,a7 h (show l.length≤1099511627776 by omega),k0,aJ h,ac,hb]
  cases kb l[i]
  ·simp only[Bool.not_false,Bool.false_and,Bool.false_eq_true,if_false]
   exact i5
  ·simp only[Bool.not_true,Bool.true_and]
   exact ih
theorem adU(m:aA.T)(st:ao.T)(l:List bI.T)(hz:ex m)(hl:l.length≤1048576)(hs:∀x ∈ l,uu x):Bi (m,st,l,())=some (iU m st l,()):=by
 have hk:=afo m st hz
 have e0:=Zh l hl hs l.length 0 (by omega)
 have ek:=fun c hc=>Zg l c hc 0 hl (by omega)
 have e0:ak cX (l,(0:Int),(0:Int),())=_:=e0
 rw[List.drop_zero]at e0
 have e1:ak cX (l,(1:Int),(0:Int),())=_:=ek 1 (by decide)
 have e2:ak cX (l,(2:Int),(0:Int),())=_:=ek 2 (by decide)
 have e3:ak cX (l,(3:Int),(0:Int),())=_:=ek 3 (by decide)
 have q0:((0:Int)==0)=true:=rfl
 have q1:((1:Int)==0)=false:=rfl
 have q2:((2:Int)==0)=false:=rfl
 unfold Bi iU
 rcases Bool.eq_false_or_eq_true (bK m)with h1|h1<;>simp only[h1]at hk ⊢
 ·rcases Bool.eq_false_or_eq_true (bc m st)with h2|h2<;>simp only[h2]at hk ⊢
  ·simp only[hk,q0]
   by_cases h3:(l.length:Int)>40
   ·simp only[decide_eq_true h3,if_pos h3,e3]
   ·simp only[decide_eq_false h3,if_neg h3,e0]
  ·simp only[hk,q2,e2]
 ·simp only[hk,q1,e1]
noncomputable def ic(m:aA.T)(st:ao.T)(x:bI.T):cP.T:=lp (gb m st (gc (ib m st x) x.2.2.1)) (gb m st (gc (ib m st x) x.2.2.2.1))
noncomputable def QB(m:aA.T)(st:ao.T)(x:bI.T):Int:=((iB st.2.2.2.2.1.toNat (cp m st).1.toNat ((ic m st x).1==(3:Int)):Nat):Int)
noncomputable def mV(m:aA.T)(st:ao.T)(x:bI.T):ao.T:=F9 m st (QB m st x)
theorem Au {m:aA.T}{st:ao.T}{l:List Int}(h:bK m=true)(hb:bc m st=true)(hl:cG l=true):ka m st l=(gb m st l,(0:Int),()):=by
 unfold ka
 rw[h,hb,hl]
theorem adV {m:aA.T}{st:ao.T}{l l2:List Int}(h:bK m=true)(hb:bc m st=true)(hl:cG l=true)(hl2:cG l2=true):Uz m st l l2=(lp (gb m st l) (gb m st l2),(0:Int),()):=by
 unfold Uz
 rw[Au h hb hl,Au h hb hl2]
 rfl
theorem yL {m:aA.T}{st:ao.T}(hb:bc m st=true):∃d:Nat,st.2.2.2.2.1=(d:Int)∧d<4294967296:=by
 obtain⟨_,_,_,d,_,_,_,ed,_,_,_,hd⟩:=Aq (wG hb)
 exact⟨d,ed,by omega⟩
theorem BD {d:cq.T}(h:og d=true):∃n:Nat,d.1=(n:Int)∧n<32:=by
 unfold og at h
 simp only[Bool.and_eq_true]at h
 have hr:=bl.1 h.1
 have e:((d.1.toNat:Nat):Int)=d.1:=Int.toNat_of_nonneg hr.1
 have h2:((d.1.toNat:Nat):Int)≤31:=by rw[e];exact hr.2
 exact⟨d.1.toNat,e.symm,by omega⟩
theorem uv {x:bI.T}(h:kb x=true):bf x.1 0 255=true∧bf x.2.1 0 7=true∧eR x.2.2.1=true∧eR x.2.2.2.1=true:=by
 unfold kb at h
 simp only[Bool.and_eq_true]at h
 exact⟨h.1.1.1,h.1.1.2,h.1.2,h.2⟩
theorem afr(m:aA.T)(st:ao.T)(x:bI.T)(hz:ex m)(h:bK m=true)(hb:bc m st=true)(hx:kb x=true):yv (m,st,x,())=some (ic m st x,mV m st x,()):=by
 obtain⟨x1,x2,x3,x4⟩:=uv hx
 have hsb:=Ks x h hb
 have hs:=afp m st x hz h hb x1 x2
 have a1:=W4 (ib m st x) (dS hsb) x.2.2.1 x3
 have a2:=W4 (ib m st x) (dS hsb) x.2.2.2.1 x4
 have b1:=oN x3 hsb
 have b2:=oN x4 hsb
 have hr:=agT m st _ _ hz (Nat.le_trans (dS b1) (by omega)) (Nat.le_trans (dS b2) (by omega))
 rw[adV h hb b1 b2]at hr
 obtain⟨_,hd,hqd⟩:=fL m st h hb
 obtain⟨n,hn,hn2⟩:=BD hqd
 obtain⟨d,hdd,hd2⟩:=yL hb
 have hm:=ag0 d n ((ic m st x).1==(3:Int)) hd2 hn2
 have hnx:=(Tj m st _ h hb (yJ ((ic m st x).1==(3:Int)) hd2 hn2)).2
 have hv:lp (gb m st (gc (ib m st x) x.2.2.1)) (gb m st (gc (ib m st x) x.2.2.2.1))=ic m st x:=rfl
 rw[hv]at hr
 have hnx:bX (m,(st.1,st.2.1,st.2.2.1,st.2.2.2.1,((iB d n ((ic m st x).1==(3:Int)):Nat):Int),()),())=_:=hnx
 unfold yv mV QB
 simp only[hs,a1,a2,hr,hd,hn,hdd,hm,hnx,iA,cY,Int.toNat_natCast]
theorem afs(m:aA.T)(st:ao.T)(x:bI.T)(hz:ex m)(h:bK m=true)(hb:bc m st=true)(hx:kb x=true):Bv (m,st,x,())=some (ic m st x,mV m st x,()):=by
 obtain⟨x1,x2,x3,x4⟩:=uv hx
 have hsb:=Ks x h hb
 have hs:=afq m st x hz h hb
 have a1:=W5 (ib m st x) (dS hsb) x.2.2.1 x3
 have a2:=W5 (ib m st x) (dS hsb) x.2.2.2.1 x4
 have b1:=oN x3 hsb
 have b2:=oN x4 hsb
 obtain⟨c1,r1⟩:=ab7 m st _ h hb b1
 obtain⟨c2,r2⟩:=ab7 m st _ h hb b2
 have hdat:(aaz (gb m st (gc (ib m st x) x.2.2.1))).length≤1099511627776:=by
  have:=Tf m st (gc (ib m st x) x.2.2.1)
  rw[Au h hb b1]at this
  exact Nat.le_trans this (by omega)
 have hr:=afk (gb m st (gc (ib m st x) x.2.2.1)) (gb m st (gc (ib m st x) x.2.2.2.1)) hdat
 obtain⟨hd,_,hqd⟩:=fL m st h hb
 obtain⟨n,hn,hn2⟩:=BD hqd
 obtain⟨d,hdd,hd2⟩:=yL hb
 have hm:=ag1 d n ((ic m st x).1==(3:Int)) hd2 hn2
 have hnx:=(Tj m st _ h hb (yJ ((ic m st x).1==(3:Int)) hd2 hn2)).1
 have hv:lp (gb m st (gc (ib m st x) x.2.2.1)) (gb m st (gc (ib m st x) x.2.2.2.1))=ic m st x:=rfl
 rw[hv]at hr
 have hnx:nI (m,(st.1,st.2.1,st.2.2.1,st.2.2.2.1,((iB d n ((ic m st x).1==(3:Int)):Nat):Int),()),())=_:=hnx
 unfold Bv mV QB
 simp only[hs,a1,a2,r1,r2,hr,hd,hn,hdd,hm,hnx,iA,cY,Int.toNat_natCast]
theorem Sv {m:aA.T}{st:ao.T}{l:List bI.T}(h:iU m st l=0):bK m=true∧bc m st=true∧l.length≤40∧∀x ∈ l,kb x=true:=by
 unfold iU at h
 cases h1:bK m<;>rw[h1]at h
 ·cases h
 ·cases h2:bc m st<;>rw[h2]at h
  ·cases h
  ·simp only at h
   split at h
   ·cases h
   ·split at h
    ·rename_i h3 h4
     exact⟨rfl,rfl,by omega,fun x hx=>List.all_eq_true.1 h4 x hx⟩
    ·cases h
end Go.Proofs.YtnambbcafhnhpaaGreatDoor
namespace Go.Proofs.YtnambbcafhnhpaaGreatDoor
open Go.RowKit
set_option linter.unusedVariables false
set_option linter.unusedSimpArgs false
noncomputable def vH(m:aA.T)(st:ao.T)(x:bI.T):cP.T×ao.T×Int×Unit:=if iU m st [x]=0 then(ic m st x,mV m st x,(0:Int),())else(((0:Int),dX,()),fK,iU m st [x],())
theorem Zi(m:aA.T)(st:ao.T)(x:bI.T)(hz:ex m)(hs:uu x):gE (m,st,x,())=some (vH m st x):=by
 have hc:=adT m st [x] hz (by simp) (fun y hy=>(by simpa using hy:y=x)▸hs)
 unfold gE vH
 simp only[hc]
 by_cases h:iU m st [x]=0
 ·obtain⟨h1,h2,_,h3⟩:=Sv h
  have hk:=afr m st x hz h1 h2 (h3 x (by simp))
  have k0:(iU m st [x] != 0)=false:=by rw[h];rfl
  rw[if_pos h]
  simp only[k0,hk]
 ·have k0:(iU m st [x] != 0)=true:=by simpa using h
  rw[if_neg h]
  simp only[k0]
  rfl
theorem aft(m:aA.T)(st:ao.T)(x:bI.T)(hz:ex m)(hs:uu x):un (m,st,x,())=some (vH m st x):=by
 have hc:=adU m st [x] hz (by simp) (fun y hy=>(by simpa using hy:y=x)▸hs)
 unfold un vH
 simp only[hc]
 by_cases h:iU m st [x]=0
 ·obtain⟨h1,h2,_,h3⟩:=Sv h
  have hk:=afs m st x hz h1 h2 (h3 x (by simp))
  have k0:(iU m st [x] != 0)=false:=by rw[h];rfl
  rw[if_pos h]
  simp only[k0,hk]
 ·have k0:(iU m st [x] != 0)=true:=by simpa using h
  rw[if_neg h]
  simp only[k0]
  rfl
end Go.Proofs.YtnambbcafhnhpaaGreatDoor
namespace Go.Proofs.YtnambbcafhnhpaaGreatDoor
open Go.RowKit
set_option linter.unusedVariables false
set_option linter.unusedSimpArgs false
theorem afu {m:aA.T}(h:bK m=true):pb m=true:=by
 unfold bK Ap at h
 obtain⟨h0,h2,h3,h4,h5⟩:=kG h
 have h1:bf m.1 1 16777215=true:=bl.2 h0
 cases h6:pb m
 ·simp[h1,h2,h3,h4,h5,h6]at h
 ·rfl
theorem aaG {d n A:Nat}(b:Bool)(hd:d&&& A=d)(hA:A.testBit n=true):iB d n b&&& A=iB d n b:=by
 have hb:∀i,d.testBit i=true→A.testBit i=true:=fun i hi=>by
  have:=congrArg (fun z:Nat=>z.testBit i) hd
  simp only[Nat.testBit_and,hi,Bool.true_and]at this
  exact this
 apply Nat.eq_of_testBit_eq
 intro i
 unfold iB
 cases b with
 |true=>
  simp only[if_true,Nat.testBit_and,Nat.testBit_or,Nat.testBit_two_pow]
  by_cases hi:n=i
  ·subst hi;simp[hA]
  ·cases hq:d.testBit i
   ·simp[hi]
   ·simp[hb i hq]
 |false=>
  simp only[Bool.false_eq_true,if_false,Nat.testBit_and,Nat.testBit_xor,Nat.testBit_two_pow]
  cases hq:d.testBit i
  ·simp
  ·simp[hb i hq]
theorem ag2(a:Nat)(t r s mem dur slots cJ:Int)(ht:0≤t∧t≤65535)(ha:a≤15)(hr:0≤r∧r<cJ)(hs:0≤s∧s<slots)(hmem:0≤mem∧mem≤4294967295)(hd:0≤dur∧dur≤1000)(hrd:cJ≤16)(hsl:slots≤256):
  co (sA (t,(a:Int),r,s,mem,()) dur slots cJ)=true∧(sA (t,(a:Int),r,s,mem,()) dur slots cJ).2.1=(a:Int)∧(sA (t,(a:Int),r,s,mem,()) dur slots cJ).2.2.1<cJ∧(sA (t,(a:Int),r,s,mem,()) dur slots cJ).2.2.2.1<slots∧(sA (t,(a:Int),r,s,mem,()) dur slots cJ).2.2.2.2.1=mem:=by
 have w1:IntKind.i64.wrap (s+1)=s+1:=by rw[wrap_i64]<;>omega
 have w2:IntKind.i64.wrap (t+dur)=t+dur:=by rw[wrap_i64]<;>omega
 have w3:IntKind.i64.wrap (r+1)=r+1:=by rw[wrap_i64]<;>omega
 have t1:0≤Int.tmod (t+dur) 65536∧Int.tmod (t+dur) 65536≤65535:=by
  rw[Int.tmod_eq_emod_of_nonneg (by omega)];omega
 have t2:0≤Int.tmod (r+1) cJ∧Int.tmod (r+1) cJ<cJ:=by
  rw[Int.tmod_eq_emod_of_nonneg (by omega)]
  exact⟨Int.emod_nonneg _ (by omega),Int.emod_lt_of_pos _ (by omega)⟩
 unfold sA
 simp only[w1,w2,w3]
 cases hq:(s+1==slots)
 ·have hne:s+1≠slots:=by simpa using hq
  refine⟨?_,rfl,hr.2,by show s+1<slots;omega,rfl⟩
  unfold co
  simp only[Bool.and_eq_true]
  exact⟨⟨⟨⟨bl.2 t1,bl.2 ⟨by omega,by omega⟩⟩,bl.2 ⟨by omega,by omega⟩⟩,bl.2 ⟨by omega,by omega⟩⟩,bl.2 hmem⟩
 ·refine⟨?_,rfl,t2.2,by show 0<slots;omega,rfl⟩
  unfold co
  simp only[Bool.and_eq_true]
  exact⟨⟨⟨⟨bl.2 t1,bl.2 ⟨by omega,by omega⟩⟩,bl.2 ⟨by omega,by omega⟩⟩,bl.2 ⟨by omega,by omega⟩⟩,bl.2 hmem⟩
theorem ag3 {m:aA.T}{st:ao.T}(a d:Nat)(ha:a<m.2.2.1.length)(hst:co st=true)(h1:st.2.1=(a:Int))(h2:st.2.2.1<m.2.2.1[a].1)(h3:st.2.2.2.1<m.2.2.1[a].2.1)(h4:st.2.2.2.2.1=(d:Int))(h5:d&&& dp m.2.1=d):bc m st=true:=by
 unfold bc
 rw[hst,h1,Int.toNat_natCast,List.getElem?_eq_getElem ha,h4,Int.toNat_natCast]
 simp only[Bool.true_and,Bool.and_eq_true,decide_eq_true_eq]
 exact⟨h2,h3,h5⟩
theorem adW {m:aA.T}{st:ao.T}(x:bI.T)(h:bK m=true)(hb:bc m st=true):bc m (mV m st x)=true∧(mV m st x).2.1=st.2.1:=by
 obtain⟨a,ha,ea,b0,b1,c0,c1,hr,hs⟩:=Ss h hb
 obtain⟨_,_,q3⟩:=fL m st h hb
 obtain⟨D,hD,hD2⟩:=As q3
 obtain⟨n,hn,hn2⟩:=BD q3
 obtain⟨d,hdd,hd2⟩:=yL hb
 obtain⟨_,hno,hmo,_,_⟩:=kG h
 have hl16:=(gI hmo).1
 have hA:(dp m.2.1).testBit n=true:=by
  have hsd:=afu h
  unfold pb at hsd
  rw[List.all_eq_true]at hsd
  obtain⟨j,hj,e⟩:=Y6 m st h hb
  have:=hsd _ (List.getElem_mem hj)
  rw[vl]at this
  have hdl:cp m st=m.2.2.2.1[j].2.2.2.1:=by
   unfold cp
   rw[e,Int.toNat_natCast,List.getElem?_eq_getElem hj]
  rw[hdl]at hn
  rw[hn,Int.toNat_natCast]at this
  exact this
 have hdA:d&&& dp m.2.1=d:=by
  have hb2:=hb
  unfold bc at hb2
  rw[Bool.and_eq_true]at hb2
  have hb3:=hb2.2
  rw[ea,Int.toNat_natCast,List.getElem?_eq_getElem ha,hdd,Int.toNat_natCast]at hb3
  simp only[Bool.and_eq_true,decide_eq_true_eq]at hb3
  exact hb3.2.2
 have hst:=wG hb
 unfold co at hst
 simp only[Bool.and_eq_true,bl]at hst
 have hlt:=yJ ((ic m st x).1==(3:Int)) hd2 hn2
 have e1:mV m st x=sA (st.1,(a:Int),st.2.2.1,st.2.2.2.1,((iB d n ((ic m st x).1==(3:Int)):Nat):Int),()) (D:Int) m.2.2.1[a].2.1 m.2.2.1[a].1:=by
  unfold mV F9 QB kH
  rw[ea,Int.toNat_natCast,List.getElem?_eq_getElem ha,hD,hn,hdd,Int.toNat_natCast,Int.toNat_natCast]
 obtain⟨g1,g2,g3,g4,g5⟩:=ag2 a st.1 st.2.2.1 st.2.2.2.1 ((iB d n ((ic m st x).1==(3:Int)):Nat):Int) (D:Int) m.2.2.1[a].2.1 m.2.2.1[a].1 hst.1.1.1.1 (by omega) ⟨b0,b1⟩ ⟨c0,c1⟩ ⟨by omega,by omega⟩ ⟨by omega,by omega⟩ hr.2 hs.2
 rw[←e1]at g1 g2 g3 g4 g5
 exact⟨ag3 a _ ha g1 g2 g3 g4 g5 (aaG _ hdA hA),by rw[g2,ea]⟩
theorem aaH {m:aA.T}{st:ao.T}(x:bI.T)(h:bK m=true)(hb:bc m st=true)(hx:kb x=true):jg (ic m st x)=true:=by
 obtain⟨_,_,x3,x4⟩:=uv hx
 have hsb:=Ks x h hb
 have r1:=yH m st (gc (ib m st x) x.2.2.1)
 have r2:=yH m st (gc (ib m st x) x.2.2.2.1)
 rw[Au h hb (oN x3 hsb)]at r1
 rw[Au h hb (oN x4 hsb)]at r2
 exact Yj r1 r2
end Go.Proofs.YtnambbcafhnhpaaGreatDoor
