import Derived.Test.YtkgcbbkodalfmaaGreatDoorQ7
import Derived.Test.YtkgcbbkodalfmaaGreatDoorQ6
import Derived.Test.YtkgcbbkodalfmaaGreatDoorGR
namespace Go.Proofs.YtkgcbbkodalfmaaGreatDoor
open Go.RowKit
set_option linter.unusedVariables false
set_option linter.unusedSimpArgs false
theorem af8(a:Int)(b:Nat)(hb:b<9223372036854775808):0≤bits .and .u64 a (b:Int)∧bits .and .u64 a (b:Int)≤(b:Int):=by
 have h2:(BitVec.ofInt 64 (b:Int)).toNat=b:=by
  rw[BitVec.ofInt_natCast,BitVec.toNat_ofNat];exact Nat.mod_eq_of_lt (by omega)
 have e:bits .and .u64 a (b:Int)=IntKind.u64.wrap ((BitVec.ofInt 64 a&&& BitVec.ofInt 64 (b:Int)).toNat:Int):=rfl
 have hle:(BitVec.ofInt 64 a&&& BitVec.ofInt 64 (b:Int)).toNat≤b:=by
  rw[BitVec.toNat_and,h2]
  exact Nat.and_le_right
 have hw:IntKind.u64.wrap ((BitVec.ofInt 64 a&&& BitVec.ofInt 64 (b:Int)).toNat:Int)=((BitVec.ofInt 64 a&&& BitVec.ofInt 64 (b:Int)).toNat:Int):=by
  have hlt:(BitVec.ofInt 64 a&&& BitVec.ofInt 64 (b:Int)).toNat<9223372036854775808:=Nat.lt_of_le_of_lt hle hb
  generalize (BitVec.ofInt 64 a&&& BitVec.ofInt 64 (b:Int)).toNat=k at hlt
  simp[IntKind.wrap,IntKind.signed,IntKind.bits]
  omega
 rw[e,hw]
 omega
theorem af9(l:List Int)(n:Int)(hl:l.length≤1099511627776):∃d:Int,adL (l,n,())=some ((l,(0:Int),d,()),()):=by
 have e:=Yv (B:=aaQ) l (fun(s:Int) i=>(l,(l,(0:Int),s,()),(i:Int),())) (fun s v=>IntKind.u64.wrap ((IntKind.u64.wrap ((IntKind.u64.wrap (s*(1099511628211:Int)))+(IntKind.u64.wrap v)))+(3:Int))) (fun s=>.inl ((l,(0:Int),s,()),())) (fun s=>by simp only[aaQ,be]) (fun s i h=>by
  simp only[aaQ,a7 h,aG h hl,ar h,aa]) (IntKind.u64.wrap ((IntKind.u64.wrap (n*(7919:Int)))+(IntKind.u64.wrap (l.length:Int))))
 have e':ag aaQ (l,(l,(0:Int),(IntKind.u64.wrap ((IntKind.u64.wrap (n*(7919:Int)))+(IntKind.u64.wrap (l.length:Int)))),()),(0:Int),())=_:=e
 unfold adL
 simp only[e']
 exact⟨_,rfl⟩
theorem afJ(l:List Int)(d n:Int)(hb:∀b ∈ l,(0:Int)≤b∧b≤255)(hn:0<n):∃(k:Int) (q:Ty.T aam),abn ((l,(0:Int),d,()),n,())=some (k,q,())∧0≤k∧k<n:=by
 unfold abn
 simp only
 have hne:¬n=0:=by omega
 obtain⟨a0,a1⟩:=af8 (Int.fdiv (IntKind.u64.wrap ((IntKind.u64.wrap (d*(6364136223846793005:Int)))+(1442695040888963407:Int))) (2^min (33:Int).toNat IntKind.u64.bits)) 16777215 (by omega)
 have a0:0≤bits BinOp.and .u64 (Int.fdiv (IntKind.u64.wrap ((IntKind.u64.wrap (d*(6364136223846793005:Int)))+(1442695040888963407:Int))) (2^min (33:Int).toNat IntKind.u64.bits)) (16777215:Int):=a0
 have a1:bits BinOp.and .u64 (Int.fdiv (IntKind.u64.wrap ((IntKind.u64.wrap (d*(6364136223846793005:Int)))+(1442695040888963407:Int))) (2^min (33:Int).toNat IntKind.u64.bits)) (16777215:Int)≤16777215:=a1
 generalize bits BinOp.and .u64 (Int.fdiv (IntKind.u64.wrap ((IntKind.u64.wrap (d*(6364136223846793005:Int)))+(1442695040888963407:Int))) (2^min (33:Int).toNat IntKind.u64.bits)) (16777215:Int)=a at *
 have wa_z:IntKind.i64.wrap a=a:=by rw[wrap_i64]<;>omega
 by_cases h:(0:Int)<(l.length:Int)
 ·cases l with
  |nil=>simp at h
  |cons b r=>
   have h0:aq (b::r) (0:Int)=some b:=rfl
   obtain⟨b0,b1⟩:=hb b (by simp)
   have wb_z:IntKind.i64.wrap b=b:=by rw[wrap_i64]<;>omega
   have wab:IntKind.i64.wrap (a+b)=a+b:=by rw[wrap_i64]<;>omega
   simp only[decide_eq_true h,h0,aa,if_neg hne,wa_z,wb_z,wab]
   exact⟨_,_,rfl,Int.tmod_nonneg _ (by omega),Int.tmod_lt_of_pos _ hn⟩
 ·simp only[decide_eq_false h,if_neg hne,wa_z]
  exact⟨_,_,rfl,Int.tmod_nonneg _ (by omega),Int.tmod_lt_of_pos _ hn⟩
end Go.Proofs.YtkgcbbkodalfmaaGreatDoor
namespace Go.Proofs.YtkgcbbkodalfmaaGreatDoor
open Go.RowKit
set_option linter.unusedVariables false
set_option linter.unusedSimpArgs false
theorem adU(l:List Int):fO l []=l:=rfl
theorem adb(l:List Int)(f:ax.T):fO l [f]=gp l f:=rfl
theorem agG {m:ac.T}{st:ab.T}{x:au.T}(h:a8 m=true)(hb:aC m st=true)(hx:eF x=true)(hs:aah x)(h0:x.2.1=(0:Int)):ada (fq m st x)=0:=by
 by_cases hk:(bL m st).2.1=(3:Int)
 ·exact aeI (ad9 hk _) (ad9 hk _)
 ·obtain⟨x1,x2,x3,x4⟩:=AJ hx
  have hsb:=afc h hb hk x1
  have hsent:gl m st x=fy (fM m st (bV m st x.1 0)):=by
   unfold gl
   rw[h0,if_pos hsb]
  have hcl:=ae4 h hsb
  have e1:(bV m st x.1 0).2.1=(0:Int):=rfl
  unfold fq
  rw[hsent]
  rcases hs with e|e|⟨a,e⟩|⟨a,e,e2⟩
  ·have q:gK m st (fO (fy (fM m st (bV m st x.1 0))) x.2.2.2.1)=((3:Int),bV m st x.1 0,()):=by
    rw[e,adU]
    exact hcl
   exact afI (congrArg (fun v:aB.T=>v.1) q) ((congrArg (fun v:aB.T=>v.2.1.2.1) q).trans e1)
  ·have q:gK m st (fO (fy (fM m st (bV m st x.1 0))) x.2.2.1)=((3:Int),bV m st x.1 0,()):=by
    rw[e,adU]
    exact hcl
   exact aex (congrArg (fun v:aB.T=>v.1) q) ((congrArg (fun v:aB.T=>v.2.1.2.1) q).trans e1)
  ·have q:gK m st (fO (fy (fM m st (bV m st x.1 0))) x.2.2.1)=((3:Int),bV m st x.1 0,()):=by
    rw[e,adb]
    exact afa h hsb a 0 0
   exact aex (congrArg (fun v:aB.T=>v.1) q) ((congrArg (fun v:aB.T=>v.2.1.2.1) q).trans e1)
  ·refine aeI ?_ ?_
   ·have q:gK m st (fO (fy (fM m st (bV m st x.1 0))) x.2.2.1)=gK m st (gp (fy (fM m st (bV m st x.1 0))) ((5:Int),(0:Int),(0:Int),(0:Int),())):=by
     rw[e,adb]
    exact(congrArg (fun v:aB.T=>v.2.1.2.1) q).trans (aew h hsb e1 0 0 0)
   ·have q:gK m st (fO (fy (fM m st (bV m st x.1 0))) x.2.2.2.1)=gK m st (gp (fy (fM m st (bV m st x.1 0))) ((5:Int),a,(0:Int),(0:Int),())):=by
     rw[e2,adb]
    exact(congrArg (fun v:aB.T=>v.2.1.2.1) q).trans (aew h hsb e1 a 0 0)
theorem aga {m:ac.T}{st:ab.T}{x:au.T}(h:ada (fq m st x)=0):ef m st x (-1)=(jk m st x,-1):=by
 have h:(fq m st x).2.1.2.1=(0:Int):=h
 have hp:rg m st x (-1)= -1:=by
  unfold rg
  rw[h]
  rfl
 unfold ef
 rw[hp]
 rw[if_neg (fun q=>absurd q.2.2 (by decide))]
theorem aey {m:ac.T}(h:a8 m=true)(l2:List au.T):∀(l1:List au.T) (st:ab.T),aC m st=true→(∀x ∈ l1,eF x=true∧aah x∧x.2.1=(0:Int))→
  (aX m (l1++l2) st (-1)).1=(aX m l1 st (-1)).1++(aX m l2 (aX m l1 st (-1)).2.2 (-1)).1∧(aX m (l1++l2) st (-1)).2.2=(aX m l2 (aX m l1 st (-1)).2.2 (-1)).2.2
 | [],st,_,_=>⟨rfl,rfl⟩
 |x::r,st,hb,hx=>by
  obtain⟨g1,g2,g3⟩:=hx x (by simp)
  have ha:=aga (agG h hb g1 g2 g3)
  obtain⟨hn,_⟩:=XW x h hb
  obtain⟨i1,i2⟩:=aey h l2 r (jk m st x) hn (fun y hy=>hx y (by simp[hy]))
  simp only[List.cons_append,aX,ha,i1,i2,and_self]
theorem aea {m:ac.T}(h:a8 m=true):∀(l:List au.T) (st:ab.T) (p:Int),aC m st=true→NR m p→(∀x ∈ l,eF x=true)→∀v ∈ (aX m l st p).1,v.2.1.2.2.2.1.length≤32
 | [],_,_,_,_,_,v,hv=>by cases hv
 |x::r,st,p,hb,hp,hall,v,hv=>by
  obtain⟨a1,a2⟩:=AM (x:=x) (p:=p) h hb hp
  simp only[aX]at hv
  rcases List.mem_cons.1 hv with rfl|hv
  ·rcases jx (AL x h hb (hall x (by simp)))with⟨f,e,hf⟩|⟨s,e,_⟩
   ·rw[e]
    exact r9 hf
   ·rw[e]
    exact Nat.zero_le _
  ·exact aea h r _ _ a1 a2 (fun y hy=>hall y (by simp[hy])) v hv
theorem afd(c:List Int)(hl:c.length≤1000000):acw (c,c,())=some (true,()):=by
 have e:=i8 (B:=GV) c (fun i=>(c,c,(i:Int),())) (fun _=>true) (.inl ()) (.inr (false,())) (by simp only[GV,be]) (fun i h=>by
  simp only[GV,a7 h,aG h (show c.length≤1099511627776 by omega),ar h,aa,m4]
  rfl)
 have e:ag GV (c,c,(0:Int),())=_:=e
 have hn:((c.length:Int) != (c.length:Int))=false:=m4 _
 have ha:c.all (fun _=>true)=true:=by simp
 unfold acw
 simp only[hn,e,ha]
 rfl
theorem adv(v:aB.T)(hl:v.2.1.2.2.2.1.length≤1000000):PA (v,v,())=some (true,()):=by
 have hi:=afd v.2.1.2.2.2.1 hl
 have hq:∀a:Int,(a==a)=true:=fun a=>by simp
 have hs:dy ab v.2.1.2.2.1 v.2.1.2.2.1=true:=(G5 _ _).2 rfl
 have hf:abm (v.2.1,v.2.1,())=some (true,()):=by
  unfold abm
  simp only[hq,hs,hi]
 unfold PA
 simp only[hq,hf]
theorem adw(code:List Int)(m:ac.T)(st:ab.T)(steps:List au.T)(vs:List aB.T)(n:ab.T)(c:Int)(hv:∀v ∈ vs,v.2.1.2.2.2.1.length≤32)(hl:vs.length≤40)(hle:vs.length≤steps.length):∀(k i:Nat) (b:Bool),i+k=vs.length→
  ∃b':Bool,ag qe (code,m,st,steps,vs,n,c,vs,b,(i:Int),())=some (.inl (code,m,st,steps,vs,n,c,b',()))∧(b'=false→b=false∧∀j,i≤j→(hj:j<steps.length)→j<vs.length→¬(steps[j].2.1:Int)>0)
 |0,i,b,hi=>by
  have hi:i=vs.length:=by omega
  refine⟨b, ?_,fun hq=>⟨hq,fun j h1 h2 h3=>by omega⟩⟩
  rw[am,hi]
  simp only[qe,be]
 |k+1,i,b,hi=>by
  have hlt:i<vs.length:=by omega
  have hls:i<steps.length:=by omega
  have hk:=adv vs[i] (by have:=hv _ (List.getElem_mem hlt);omega)
  have hw:=aG hlt (show vs.length≤1099511627776 by omega)
  cases b with
  |true=>
   obtain⟨b',h1,h2⟩:=adw code m st steps vs n c hv hl hle k (i+1) true (by omega)
   refine⟨b', ?_,fun hq=>absurd (h2 hq).1 (by decide)⟩
   rw[am]
   simp only[qe,a7 hlt,ar hlt,aa,Int.toNat_natCast,List.getElem?_eq_getElem hlt,hk,Bool.not_true,hw]
   exact h1
  |false=>
   obtain⟨b',h1,h2⟩:=adw code m st steps vs n c hv hl hle k (i+1) (decide ((steps[i].2.1:Int)>0)) (by omega)
   refine⟨b', ?_,fun hq=>⟨rfl,fun j g1 g2 g3=> ?_⟩⟩
   ·rw[am]
    simp only[qe,a7 hlt,ar hlt,ar hls,aa,Int.toNat_natCast,List.getElem?_eq_getElem hlt,hk,Bool.not_true,hw]
    exact h1
   ·obtain⟨q1,q2⟩:=h2 hq
    by_cases hji:j=i
    ·subst hji
     exact of_decide_eq_false q1
    ·exact q2 j (by omega) g2 g3
theorem adV(va_z vb:List aB.T)(hv:∀v ∈ va_z++vb,v.2.1.2.2.2.1.length≤32)(hl:(va_z++vb).length≤40):∀(k i:Nat),i+k=(va_z++vb).length→
  ag ql (va_z++vb,va_z,vb,(i:Int),())=some (.inl ())
 |0,i,hi=>by
  have hi:i=(va_z++vb).length:=by omega
  rw[am,hi]
  simp only[ql,be]
 |k+1,i,hi=>by
  have hlt:i<(va_z++vb).length:=by omega
  have ih:=adV va_z vb hv hl k (i+1) (by omega)
  have hk:=adv (va_z++vb)[i] (by have:=hv _ (List.getElem_mem hlt);omega)
  have hw:=aG hlt (show(va_z++vb).length≤1099511627776 by omega)
  have hlen:(va_z++vb).length=va_z.length+vb.length:=List.length_append
  by_cases ha:i<va_z.length
  ·have e:va_z[i]=(va_z++vb)[i]:=(List.getElem_append_left ha).symm
   have hd:decide ((i:Int)≥(va_z.length:Int))=false:=decide_eq_false (by omega)
   rw[am]
   simp only[ql,a7 hlt,a7 ha,ar hlt,ar ha,aa,Int.toNat_natCast,List.getElem?_eq_getElem hlt,List.getElem?_eq_getElem ha,e,hk,Bool.not_true,hd,hw]
   exact ih
  ·have hb:i-va_z.length<vb.length:=by omega
   have e:vb[i-va_z.length]=(va_z++vb)[i]:=(List.getElem_append_right (by omega)).symm
   have hd:decide ((i:Int)≥(va_z.length:Int))=true:=decide_eq_true (by omega)
   have hd2:decide ((i:Int)<(va_z.length:Int))=false:=decide_eq_false (by omega)
   have hs:IntKind.i64.wrap ((i:Int)-(va_z.length:Int))=((i-va_z.length:Nat):Int):=by rw[wrap_i64]<;>omega
   rw[am]
   simp only[ql,a7 hlt,hd2,hs,ar hlt,ar hb,aa,Int.toNat_natCast,List.getElem?_eq_getElem hlt,List.getElem?_eq_getElem hb,e,hk,Bool.not_true,hd,hw]
   exact ih
theorem adW {m:ac.T}{st:ab.T}{l:List au.T}(h1:a8 m=true)(h2:aC m st=true)(h3:l.length≤40)(h4:∀x ∈ l,eF x=true):ch m st l=0:=by
 unfold ch
 simp only[h1,h2]
 rw[if_neg (by omega),if_pos (List.all_eq_true.2 h4)]
theorem aec(x)(hx:Wf (.pair (.list (.int .u8)) .unit) x):abz x=some (true,()):=by
 obtain⟨(l:List Int),u⟩:=x
 unfold abz Jm
 by_cases hbig:(l.length:Int)>4096
 ·simp only[decide_eq_true hbig]
 ·have hb:=RJ hx.1
  obtain⟨s,⟨m,st,steps,rest⟩,d1,d2,hz,hl,hs,hsh⟩:=ae1 (l:=l) (by omega) hb
  have hs:∀x ∈ steps,gY x:=hs
  have hsh:∀x ∈ steps,aah x:=hsh
  have hl:steps.length≤100:=hl
  have d2:kB ((s.1,s.2.1,s.2.2.1,()),())=_:=d2
  have hd:aaZ (l,())=some (m,st,steps,()):=by
   unfold aaZ
   simp only[d1,d2]
  have ei:=aac m st steps hz (by omega) hs
  have es:=aad m st steps hz (by omega) hs
  have hb0:∀a:Int,(a != a)=false:=m4
  have hst:∀z:ab.T,(!(dy ab z z))=false:=fun z=>by rw[(G5 z z).2 rfl];rfl
  simp only[decide_eq_false hbig,hd,ei,es,hb0,hst]
  by_cases h0:ch m st steps=0
  ·obtain⟨h1,h2,h3,h4⟩:=m8 h0
   rw[if_pos h0]
   obtain⟨n1,n2⟩:=m9 m steps st (-1)
   have hdat:=aea h1 steps st (-1) h2 (.inl rfl) h4
   obtain⟨ask,k1,k2⟩:=adw l m st steps (aX m steps st (-1)).1 (aX m steps st (-1)).2.2 0 hdat (by omega) (by omega) (aX m steps st (-1)).1.length 0 false (by omega)
   have k1:ag qe (l,m,st,steps,(aX m steps st (-1)).1,(aX m steps st (-1)).2.2,(0:Int),(aX m steps st (-1)).1,false,(0:Int),())=_:=k1
   have hz1:((0:Int) != 0)=false:=rfl
   simp only[k1,hz1]
   cases ask with
   |true=>rfl
   |false=>
    have hreq:∀x ∈ steps,x.2.1=(0:Int):=fun x hx=>by
     obtain⟨j,hj,rfl⟩:=List.getElem_of_mem hx
     have q1:=(k2 rfl).2 j (Nat.zero_le _) hj (by omega)
     obtain⟨_,q2,_,_⟩:=AJ (h4 _ (List.getElem_mem hj))
     have q3:=aR.1 q2
     have key:∀z:Int,¬z>0→0≤z→z=0:=fun z a b=>by omega
     exact key _ q1 q3.1
    obtain⟨dc,r1⟩:=af9 l 3203 (by omega)
    have hwl:IntKind.i64.wrap ((steps.length:Int)+1)=(steps.length:Int)+1:=by rw[wrap_i64]<;>omega
    obtain⟨kz_z,q,r2,r3,r4_z⟩:=afJ l dc ((steps.length:Int)+1) hb (by omega)
    obtain⟨k,rfl⟩:∃k:Nat,kz_z=(k:Int):=⟨kz_z.toNat,by omega⟩
    have hk:k≤steps.length:=by omega
    have b1:aL steps.length none (some (.dat (.int .i64) (k:Int)))=some (0,k):=lw hk
    have b2:aL steps.length (some (.dat (.int .i64) (k:Int))) none=some (k,steps.length):=xU hk
    have t1:∀x ∈ steps.take k,eF x=true:=fun x hx=>h4 x (List.mem_of_mem_take hx)
    have t2:∀x ∈ steps.drop k,eF x=true:=fun x hx=>h4 x (List.mem_of_mem_drop hx)
    have e1:=aac m st (steps.take k) hz (by rw[List.length_take];omega) (fun x hx=>hs x (List.mem_of_mem_take hx))
    rw[if_pos (adW h1 h2 (by rw[List.length_take];omega) t1)]at e1
    have hmid:=(zu h1 (steps.take k) st (-1) h2 (.inl rfl)).2
    have e2:=aac m (aX m (steps.take k) st (-1)).2.2 (steps.drop k) hz (by rw[List.length_drop];omega) (fun x hx=>hs x (List.mem_of_mem_drop hx))
    rw[if_pos (adW h1 hmid (by rw[List.length_drop];omega) t2)]at e2
    obtain⟨c1,c2⟩:=aey h1 (steps.drop k) (steps.take k) st h2 (fun x hx=>⟨t1 x hx,hsh x (List.mem_of_mem_take hx),hreq x (List.mem_of_mem_take hx)⟩)
    rw[List.take_append_drop]at c1 c2
    have hdat2:=hdat
    have hlen:(aX m steps st (-1)).1.length≤40:=by omega
    rw[c1]at hdat2 hlen
    have pl:=adV (aX m (steps.take k) st (-1)).1 (aX m (steps.drop k) (aX m (steps.take k) st (-1)).2.2 (-1)).1 hdat2 hlen _ 0 (Nat.zero_add _)
    have hwn:IntKind.i64.wrap (((aX m (steps.take k) st (-1)).1.length:Int)+((aX m (steps.drop k) (aX m (steps.take k) st (-1)).2.2 (-1)).1.length:Int))=((((aX m (steps.take k) st (-1)).1++(aX m (steps.drop k) (aX m (steps.take k) st (-1)).2.2 (-1)).1).length:Nat):Int):=by
     rw[List.length_append]at hlen ⊢
     rw[wrap_i64]<;>omega
    have c20:Q5 ((aX m (steps.take k) st (-1)).1++(aX m (steps.drop k) (aX m (steps.take k) st (-1)).2.2 (-1)).1,(aX m (steps.drop k) (aX m (steps.take k) st (-1)).2.2 (-1)).2.2,(aX m (steps.take k) st (-1)).1,(0:Int),(aX m (steps.drop k) (aX m (steps.take k) st (-1)).2.2 (-1)).1,(aX m (steps.drop k) (aX m (steps.take k) st (-1)).2.2 (-1)).2.2,(0:Int),())=some (.inr (true,())):=by
     unfold Q5
     have pl:ag ql ((aX m (steps.take k) st (-1)).1++(aX m (steps.drop k) (aX m (steps.take k) st (-1)).2.2 (-1)).1,(aX m (steps.take k) st (-1)).1,(aX m (steps.drop k) (aX m (steps.take k) st (-1)).2.2 (-1)).1,(0:Int),())=_:=pl
     simp only[hz1,hst,hwn,hb0,pl]
    have c19:Q6 (m,steps,(aX m steps st (-1)).1,(aX m steps st (-1)).2.2,(k:Int),(aX m (steps.take k) st (-1)).1,(aX m (steps.take k) st (-1)).2.2,(0:Int),())=some (.inr (true,())):=by
     unfold Q6
     simp only[b2,aa,kw,List.take_length,e2,c1,c2,c20]
    simp only[r1,hwl,r2,b1,aa,kw,List.drop_zero,e1,c19]
  ·rw[if_neg h0]
   have hz1:(ch m st steps != 0)=true:=by simpa using h0
   have k1:ag qe (l,m,st,steps,[],dV,ch m st steps,[],false,(0:Int),())=some (.inl (l,m,st,steps,[],dV,ch m st steps,false,())):=by
    rw[am]
    rfl
   simp only[k1,hz1]
end Go.Proofs.YtkgcbbkodalfmaaGreatDoor
