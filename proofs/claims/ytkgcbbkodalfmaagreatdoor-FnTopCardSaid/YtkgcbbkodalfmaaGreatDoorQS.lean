import Derived.Test.YtkgcbbkodalfmaaGreatDoorQ6
import Derived.Test.YtkgcbbkodalfmaaGreatDoorQB
namespace Go.Proofs.YtkgcbbkodalfmaaGreatDoor
open Go.RowKit
set_option linter.unusedVariables false
set_option linter.unusedSimpArgs false
theorem Z1(k:Nat):(cG (List.replicate k (1:Int))).2.1=4:=by
 have hw:∀i:Int,i<k→cR (List.replicate k (1:Int)) i=1:=fun i hi=>by
  unfold cR
  split
  ·rfl
  ·rw[List.getD_eq_getElem?_getD,List.getElem?_replicate,if_pos (by omega)]
   rfl
 have ha:∀i,bT (ie (List.replicate k (1:Int))) i=1:=fun i=>by
  rw[abt,List.length_replicate]
  split
  ·rename_i hi
   unfold vb jP
   rw[hw _ (by omega),hw _ (by omega),hw _ (by omega),hw _ (by omega),hw _ (by omega),if_pos (by decide)]
  ·rfl
 have hf:bh (ie (List.replicate k (1:Int))) 0 0=none:=oT fun i _=>ha i
 have hc:dV (ie (List.replicate k (1:Int)))=4:=by
  unfold dV lA
  rw[hf]
 unfold cG
 rw[hc,if_neg (by decide)]
theorem YD(m:an.T)(st:ai.T)(k:Nat):fP m st (List.replicate k (1:Int))=((0:Int),c9,()):=by
 unfold fP
 rw[Z1,if_neg (by decide),if_pos rfl]
theorem QA(l:List Int):co l ((5:Int),(0:Int),(0:Int),(0:Int),())=List.replicate l.length 1:=by
 have e:co l ((5:Int),(0:Int),(0:Int),(0:Int),())=ja (fun _=>1) l (0:Int).toNat l.length:=by
  unfold co
  rw[if_neg (show ¬(5:Int)=1 by decide),if_neg (show ¬(5:Int)=2 by decide),if_neg (show ¬(5:Int)=3 by decide),if_neg (show ¬(5:Int)=4 by decide)]
  exact if_pos rfl
 rw[e]
 unfold ja
 have h0:min (0:Int).toNat l.length=0:=Nat.zero_min _
 rw[h0,Nat.min_self,Nat.sub_zero]
 obtain⟨_,c2⟩:=Vn l.length 0 l (by omega)
 refine List.ext_getElem? fun j=> ?_
 by_cases hj:j<l.length
 ·rw[c2 j (Nat.zero_le _) hj,List.getElem?_replicate,if_pos hj]
 ·rw[List.getElem?_eq_none (by rw[sU];omega),List.getElem?_eq_none (by rw[List.length_replicate];omega)]
theorem YE(c:List Int)(hl:c.length≤1000000):wv (c,c,())=some (true,()):=by
 have e:=ki (B:=g0) c (fun i=>(c,c,(i:Int),())) (fun _=>true) (.inl ()) (.inr (false,())) (by simp only[g0,bp]) (fun i h=>by
  simp only[g0,a7 h,aG h (show c.length≤1099511627776 by omega),am h,ab,nA]
  rfl)
 have e:ac g0 (c,c,(0:Int),())=_:=e
 have hn:((c.length:Int) != (c.length:Int))=false:=nA _
 have ha:c.all (fun _=>true)=true:=by simp
 unfold wv
 simp only[hn,e,ha]
 rfl
theorem M1(f:aB.T)(hl:f.2.2.2.1.length≤1000000):jF (f,f,())=some (true,()):=by
 have hi:=YE f.2.2.2.1 hl
 have hq:∀a:Int,(a==a)=true:=fun a=>by simp
 have hs:ex ai f.2.2.1 f.2.2.1=true:=(z6 _ _).2 rfl
 unfold jF
 simp only[hq,hs,hi]
theorem Tl(v:cA.T)(hl:v.2.1.2.2.2.1.length≤1000000):jq (v,v,())=some (true,()):=by
 have hq:∀a:Int,(a==a)=true:=fun a=>by simp
 unfold jq
 simp only[hq,M1 v.2.1 hl]
theorem WN {a b:cA.T}(ha:jH a=true)(hb:jH b=true):fI b a=fI a b:=by
 rcases ph ha with⟨f,rfl,hf⟩|⟨s,rfl,h0,h4,h3⟩<;>rcases ph hb with⟨g,rfl,hg⟩|⟨s',rfl,h0',h4',h3'⟩
 ·unfold fI
  show(if((3:Int)==3&&((3:Int)==3&&ba g f))=true then((3:Int),g,())else _)=(if((3:Int)==3&&((3:Int)==3&&ba f g))=true then((3:Int),f,())else _)
  by_cases h:f=g
  ·subst h;rfl
  ·have h1:ba f g=false:=by
    cases h1:ba f g with
    |false=>rfl
    |true=>exact absurd ((pg f g).1 h1) h
   have h2:ba g f=false:=by
    cases h2:ba g f with
    |false=>rfl
    |true=>exact absurd ((pg g f).1 h2).symm h
   rw[h1,h2];rfl
 ·have e3:(s'==(3:Int))=false:=by simp[h3']
  unfold fI
  show(if(s'==(3:Int)&&((3:Int)==(3:Int)&&ba c9 f))=true then _ else if((s'==(3:Int)&&(3:Int)==(3:Int))||(s'==(4:Int)||(3:Int)==(4:Int)))=true then cq 4 else if(s'==(3:Int))=true then _ else if((3:Int)==(3:Int))=true then _ else _)=(if((3:Int)==3&&(s'==(3:Int)&&ba f c9))=true then _ else if(((3:Int)==3&&s'==(3:Int))||((3:Int)==4||s'==(4:Int)))=true then cq 4 else if((3:Int)==3)=true then _ else if(s'==(3:Int))=true then _ else _)
  rw[e3]
  rcases Bool.eq_false_or_eq_true (s'==(4:Int))with h|h<;>rw[h]<;>rfl
 ·have e3:(s==(3:Int))=false:=by simp[h3]
  unfold fI
  show(if((3:Int)==3&&(s==(3:Int)&&ba g c9))=true then _ else if(((3:Int)==3&&s==(3:Int))||((3:Int)==4||s==(4:Int)))=true then cq 4 else if((3:Int)==3)=true then _ else if(s==(3:Int))=true then _ else _)=(if(s==(3:Int)&&((3:Int)==(3:Int)&&ba c9 g))=true then _ else if((s==(3:Int)&&(3:Int)==(3:Int))||(s==(4:Int)||(3:Int)==(4:Int)))=true then cq 4 else if(s==(3:Int))=true then _ else if((3:Int)==(3:Int))=true then _ else _)
  rw[e3]
  rcases Bool.eq_false_or_eq_true (s==(4:Int))with h|h<;>rw[h]<;>rfl
 ·have e3:(s==(3:Int))=false:=by simp[h3]
  have e3':(s'==(3:Int))=false:=by simp[h3']
  unfold fI
  show(if(s'==(3:Int)&&(s==(3:Int)&&ba c9 c9))=true then _ else if((s'==(3:Int)&&s==(3:Int))||(s'==(4:Int)||s==(4:Int)))=true then cq 4 else if(s'==(3:Int))=true then cq s' else if(s==(3:Int))=true then cq s else cq (if s>s' then s else s'))=(if(s==(3:Int)&&(s'==(3:Int)&&ba c9 c9))=true then _ else if((s==(3:Int)&&s'==(3:Int))||(s==(4:Int)||s'==(4:Int)))=true then cq 4 else if(s==(3:Int))=true then cq s else if(s'==(3:Int))=true then cq s' else cq (if s'>s then s' else s))
  rw[e3,e3']
  rcases Bool.eq_false_or_eq_true (s==(4:Int))with h|h<;>rcases Bool.eq_false_or_eq_true (s'==(4:Int))with h'|h'<;>rw[h,h']<;>simp
  have:(if s>s' then s else s')=(if s'>s then s' else s):=by split<;>split<;>omega
  simpa using congrArg cq this
theorem abw {l:List Int}(hl:l.length≤4096)(hb:∀b ∈ l,(0:Int)≤b∧b≤255):∃(m:an.T) (st:ai.T) (f:aB.T) (s1 s2:List av.T),kQ (l,())=some (m,st,f,s1,s2,())∧fH m∧f.2.2.2.1.length≤2000∧s1.length≤100∧s2.length≤100:=by
 obtain⟨s,h1,hs⟩:=abo l hl hb
 obtain⟨v2,e2,g2,hS,hF⟩:=ac8 hs
 have e2:tQ ((s.1,s.2.1,s.2.2.1,()),())=some v2:=e2
 have hz:=yk hS
 have e3:iR ((v2.1.1,v2.1.2.1,v2.1.2.2.1,v2.1.2.2.2.1,()),(v2.2.1.1,v2.2.1.2.1,v2.2.1.2.2.1,v2.2.1.2.2.2.1,v2.2.1.2.2.2.2.1,()),(v2.2.2.1.1,v2.2.2.1.2.1,(v2.2.2.1.2.2.1.1,v2.2.2.1.2.2.1.2.1,v2.2.2.1.2.2.1.2.2.1,v2.2.2.1.2.2.1.2.2.2.1,v2.2.2.1.2.2.1.2.2.2.2.1,()),v2.2.2.1.2.2.2.1,()),())=_:=Vb v2.1 v2.2.1 v2.2.2.1 hz (by omega)
 have g2:=dB g2
 obtain⟨v4,e4,g4,l4⟩:=Tc (100:Int) g2
 unfold kQ
 simp only[h1,e2,e3]
 by_cases h:cn v2.1 v2.2.1 v2.2.2.1=0
 rotate_left
 ·have hn:(cn v2.1 v2.2.1 v2.2.2.1 != (0:Int))=true:=by simp[h]
  simp only[if_neg h,hn,e4,cW,lY]
  exact⟨v2.1,v2.2.1,v2.2.2.1,v4.1,[],rfl,hz,hF,l4,Nat.zero_le _⟩
 ·obtain⟨c1,c2⟩:=sS h
  have hX:(aZ (bV v2.1 v2.2.1 v2.2.2.1)).length≤8192:=by rw[kA];omega
  generalize aZ (bV v2.1 v2.2.1 v2.2.2.1)=X at hX ⊢
  obtain⟨v5,e5,g5,l5⟩:=Yx X hX g2
  obtain⟨v6,e6,d6,g6⟩:=az (n:=4) g5
  obtain⟨v7,e7,g7,l7⟩:=Yx X hX g6
  obtain⟨v8,e8,g8,l8⟩:=Tc (X.length:Int) g6
  simp only[if_pos h,show((0:Int) != 0)=false from rfl,e5,e6,e7,e8,cW,lY]
  split
  ·exact⟨v2.1,v2.2.1,v2.2.2.1,v5.1,v7.1,rfl,hz,hF,l5,l7⟩
  ·split
   ·exact⟨v2.1,v2.2.1,v2.2.2.1,[((5:Int),(0:Int),(0:Int),(0:Int),())],v5.1,rfl,hz,hF,by show 1≤100;decide,l5⟩
   ·exact⟨v2.1,v2.2.1,v2.2.2.1,v5.1,v8.1,rfl,hz,hF,l5,l8⟩
theorem YF {m:an.T}{st:ai.T}{f:aB.T}{s:List av.T}(h:cn m st f=0)(hs:dp s=true):gJ m st f s=(dL (aZ (bV m st f)) s,(0:Int),()):=by
 unfold gJ
 rw[if_pos h,hs]
theorem OU {m:an.T}{st:ai.T}{f:aB.T}{s1 s2:List av.T}(h:cn m st f=0)(h1:dp s1=true)(h2:dp s2=true):mh m st f s1 s2=(fI (fP m st (dL (aZ (bV m st f)) s1)) (fP m st (dL (aZ (bV m st f)) s2)),(0:Int),()):=by
 obtain⟨a,b,c⟩:=wS h
 obtain⟨c1,c2⟩:=sS h
 have hb:bR (aZ (bV m st f))=true:=Kv (ML c2) (by rw[kA];omega)
 have r1:dH m st (dL (aZ (bV m st f)) s1)=(fP m st (dL (aZ (bV m st f)) s1),(0:Int),()):=by
  unfold dH
  simp only[a,b,tp h1 hb]
 have r2:dH m st (dL (aZ (bV m st f)) s2)=(fP m st (dL (aZ (bV m st f)) s2),(0:Int),()):=by
  unfold dH
  simp only[a,b,tp h2 hb]
 unfold mh
 simp only[YF h h1,YF h h2,show((0:Int) != 0)=false from rfl]
 unfold zr
 simp only[r1,r2,show((0:Int) != 0)=false from rfl]
theorem WO {m:an.T}{st:ai.T}{f:aB.T}{s1 s2:List av.T}(h0:(mh m st f s1 s2).2.1=0):cn m st f=0∧dp s1=true∧dp s2=true:=by
 have CZ:∀s,(gJ m st f s).2.1=0→cn m st f=0∧dp s=true:=fun s hs=>by
  unfold gJ at hs
  split at hs
  ·rename_i h
   refine⟨h, ?_⟩
   cases hb:dp s with
   |true=>rfl
   |false=>
    rw[hb]at hs
    exact absurd hs (show ¬(3:Int)=0 by decide)
  ·rename_i h
   exact absurd hs h
 unfold mh at h0
 cases g1:(gJ m st f s1).2.1 != (0:Int)with
 |true=>
  rw[g1]at h0
  have h0:(gJ m st f s1).2.1=0:=h0
  rw[h0]at g1
  exact absurd g1 (by decide)
 |false=>
  cases g2:(gJ m st f s2).2.1 != (0:Int)with
  |true=>
   rw[g1,g2]at h0
   have h0:(gJ m st f s2).2.1=0:=h0
   rw[h0]at g2
   exact absurd g2 (by decide)
  |false=>
   obtain⟨a,b⟩:=CZ s1 (by simpa using g1)
   exact⟨a,b,(CZ s2 (by simpa using g2)).2⟩
theorem IZ {m:an.T}{st:ai.T}{y:List Int}(h1:cu m=true)(h2:bb m st=true)(h3:bR y=true):jH (fP m st y)=true:=by
 have:=CO m st y
 have e:dH m st y=(fP m st y,(0:Int),()):=by
  unfold dH
  simp only[h1,h2,h3]
 rw[e]at this
 exact this
theorem WP(f:aB.T):fI ((3:Int),f,()) ((0:Int),c9,())=((3:Int),f,()):=rfl
theorem WQ(X:List Int)(F:av.T):dL X [F]=co X F:=rfl
theorem WR(X:List Int):dL X []=X:=rfl
theorem WS:dp [((5:Int),(0:Int),(0:Int),(0:Int),())]=true:=rfl
theorem adc:dp []=true:=rfl
theorem Z2 {m:an.T}{st:ai.T}{f:aB.T}(hs:cn m st f=0):mh m st f [] [((5:Int),(0:Int),(0:Int),(0:Int),())]=(((3:Int),f,()),(0:Int),()):=by
 obtain⟨h1,h2,h3⟩:=wS hs
 have q1:=WI h1 h3
 rw[OU hs adc WS,WR,WQ,QA,YD,q1,WP]
theorem abx {l:List Int}{u:Unit}{m:an.T}{st:ai.T}{f:aB.T}{s1 s2:List av.T}{X:List Int}{v:cA.T}{b:Bool}(hbig:¬(l.length:Int)>4096)(hd:kQ (l,())=some (m,st,f,s1,s2,()))
  (i1:jf (m,st,f,s1,s2,())=some (v,(0:Int),())) (t1:rC (m,st,f,s1,s2,())=some (v,(0:Int),())) (k1:jq (v,v,())=some (true,()))
  (i2:jf (m,st,f,s2,s1,())=some (v,(0:Int),())) (i3:jf (m,st,f,[],[((5:Int),(0:Int),(0:Int),(0:Int),())],())=some (((3:Int),f,()),(0:Int),())) (k2:jF (f,f,())=some (true,()))
  (i4:i6 (m,st,f,())=some (X,(0:Int),())) (i5:oO (X,s1,())=some (b,())) (hv:b=true→v=((3:Int),f,())∨v.1=(4:Int)):wN (l,u)=some (true,()):=by
 have hb0:∀a:Int,(a != a)=false:=nA
 have hz:((0:Int)==0)=true:=rfl
 have h3:((3:Int)==3)=true:=rfl
 unfold wN KZ
 simp only[decide_eq_false hbig,hd,i1,t1,k1,i2,i3,k2,i4,i5,hb0,hz,Bool.not_true]
 cases b with
 |false=>rfl
 |true=>
  rcases hv rfl with rfl|hv
  ·simp only[Bool.not_true,h3,k2]
  ·have n3:(v.1==(3:Int))=false:=by rw[hv];rfl
   have n4:(v.1==(4:Int))=true:=by rw[hv];rfl
   simp only[Bool.not_true,n3,n4]
theorem aby(x)(hx:Wf (.pair (.list (.int .u8)) .unit) x):wN x=some (true,()):=by
 obtain⟨(l:List Int),u⟩:=x
 by_cases hbig:(l.length:Int)>4096
 ·unfold wN KZ
  simp only[decide_eq_true hbig]
 ·have hb:=ZQ hx.1
  obtain⟨m,st,f,s1,s2,hd,hz,hF,l1,l2⟩:=abw (l:=l) (by omega) hb
  have i1:=ON m st f s1 s2 hz (by omega) (by omega) (by omega)
  have t1:=abl m st f s1 s2 hz (by omega) (by omega) (by omega)
  have i2:=ON m st f s2 s1 hz (by omega) (by omega) (by omega)
  have i3:=ON m st f [] [((5:Int),(0:Int),(0:Int),(0:Int),())] hz (by omega) (Nat.zero_le _) (by show 1≤_;omega)
  have i4:=Va m st f hz (by omega)
  have hb0:∀a:Int,(a != a)=false:=nA
  have hlen:=Ye m st f s1 s2
  have k1:=Tl (mh m st f s1 s2).1 (by omega)
  have k2:=M1 f (by omega)
  by_cases h0:(mh m st f s1 s2).2.1=0
  ·obtain⟨hs,hc1,hc2⟩:=WO h0
   obtain⟨h1,h2,h3⟩:=wS hs
   obtain⟨c1,c2⟩:=sS hs
   have hX:=kA (bV m st f)
   have hbit:bR (aZ (bV m st f))=true:=Kv (ML c2) (by omega)
   have va:=IZ h1 h2 (tp hc1 hbit)
   have vb:=IZ h1 h2 (tp hc2 hbit)
   rw[OU hs hc1 hc2]at i1 t1 k1
   rw[OU hs hc2 hc1,WN va vb]at i2
   rw[Z2 hs]at i3
   rw[if_pos hs]at i4
   obtain⟨b,i5,hbd⟩:=YC (aZ (bV m st f)) s1 hbit hc1
   refine abx hbig hd i1 t1 k1 i2 i3 k2 i4 i5 (fun hbt=> ?_)
   have hr:=Tk h1 h3 (by omega) s1 hc1 (hbd hbt)
   rw[hr]
   rcases abu (a:=((3:Int),f,())) (b:=fP m st (dL (aZ (bV m st f)) s2)) rfl with e|e
   ·exact .inl e
   ·rw[e]
    exact .inr rfl
  ·have hz1:((mh m st f s1 s2).2.1 != 0)=true:=by simpa using h0
   unfold wN KZ
   simp only[decide_eq_false hbig,hd,i1,t1,hb0,k1,Bool.not_true,hz1]
end Go.Proofs.YtkgcbbkodalfmaaGreatDoor
